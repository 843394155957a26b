/- A module laid open may be; run 20 times as long it tells, and ends, as the module does, but for too many frames. -/
import Derived.Test.YtoelbgjpmpoolaaGreatDvc3
import Derived.Test.YtoelbgjpmpoolaaGreatLawinlineKeeps1
set_option linter.unusedVariables false
set_option linter.unusedSimpArgs false
set_option linter.unnecessarySimpa false
namespace Go.Proofs.YtoelbgjpmpoolaaGreat
open Go Dv
set_option maxRecDepth 10000
set_option linter.unusedSimpArgs false
theorem Zdx {f : Func} (h : smallF f = true) : f.blocks.length = 1 ∧ f.regs ≤ 16 ∧ (f.blocks.getD 0 default).ins.length ≤ 16 ∧ (f.blocks.getD 0 default).fin.kind = 1 ∧ ∀ i, i < (f.blocks.getD 0 default).ins.length → ((f.blocks.getD 0 default).ins.getD i default).op ≠ 11 := by
 unfold smallF at h
 rw [Bool.and_eq_true, decide_eq_true_eq] at h
 refine ⟨h.1.1, h.1.2.1, h.1.2.2.1, h.1.2.2.2, fun i hi e => ?_⟩
 have h2 : ((f.blocks.getD 0 default).ins.any fun x => decide (x.op = 11)) = false := by simpa using h.2
 rw [List.any_eq_false] at h2
 rw [Zbl default hi] at e
 exact h2 _ (List.getElem_mem hi) (by simpa using e)
theorem rels_snoc {h : Zaq} {l : List Ins} {v : Ins} {c : List AV} {f : Nat → List AV} {n z : Nat} (hn : n = l.length) (hf : ∀ i, i < l.length → f i = Zax (l.getD i default)) (hc : c.length = 7) (hg : Rels h c (Zax v)) (hz : z < l.length + 1) : Rels h (appR n f (fun i => Zfd 7 c (0 + i)) z) (Zax ((l ++ [v]).getD z default)) := by
 subst hn
 by_cases e : z < l.length
 ·have h1 : appR l.length f (fun i => Zfd 7 c (0 + i)) z = f z := by
   unfold appR; rw [show Nat.blt z l.length = true from by rw [Nat.blt_eq]; exact e]; rfl
  rw [h1, hf z e, show (l ++ [v]).getD z default = l.getD z default from by simp [List.getD_eq_getElem?_getD, List.getElem?_append_left e]]
  exact Rels.imm rfl
 ·have e2 : z = l.length := by omega
  subst e2
  have h1 : appR l.length f (fun i => Zfd 7 c (0 + i)) l.length = c := by
   unfold appR; rw [show Nat.blt l.length l.length = false from by rw [Bool.eq_false_iff]; intro h; rw [Nat.blt_eq] at h; omega, Nat.sub_self, ← hc]
   exact rowOf_one _
  rw [h1, show (l ++ [v]).getD l.length default = v from by simp [List.getD_eq_getElem?_getD]]
  exact hg
def opA (x : Ins) (base : Int) (i : Nat) : Ins := if i < x.args.length then ⟨2, wi (base + i), x.args.getD i 0, 0, 0, 0, []⟩ else ⟨1, wi (base + i), 0, 0, 0, 0, []⟩
def opP (x : Ins) (base : Int) (n : Nat) : List Ins := (List.range n).map (opA x base)
def opEnd (x : Ins) (f : Func) (base : Int) : Ins := ⟨2, x.dst, wi (base + (f.blocks.getD 0 default).fin.a), 0, 0, 0, []⟩
def Ze0 (x : Ins) (f : Func) (base : Int) : List Ins := opP x base f.regs.toNat ++ (f.blocks.getD 0 default).ins.map (fun y => mv1 y base) ++ [opEnd x f base]
theorem opP_len (x : Ins) (base : Int) (n : Nat) : (opP x base n).length = n := by simp [opP]
theorem opP_succ (x : Ins) (base : Int) (n : Nat) : opP x base (n + 1) = opP x base n ++ [opA x base n] := by simp [opP, List.range_succ]
theorem Zez (x : Ins) (f : Func) (base : Int) : (Ze0 x f base).length = f.regs.toNat + (f.blocks.getD 0 default).ins.length + 1 := by simp [Ze0, opP_len]; omega
def mvP (l : List Ins) (base : Int) (i : Nat) : List Ins := (l.take i).map fun y => mv1 y base
theorem mvP_len {l : List Ins} {base : Int} {i : Nat} (h : i ≤ l.length) : (mvP l base i).length = i := by simp [mvP]; omega
theorem mvP_succ {l : List Ins} {base : Int} {i : Nat} (h : i < l.length) : mvP l base (i + 1) = mvP l base i ++ [mv1 (l.getD i default) base] := by
 unfold mvP; rw [Zb9 default h]; simp
set_option maxHeartbeats 2000000 in
theorem c_open (x : Ins) (f : Func) (base : Int) (hs : smallF f = true) : FC Tryz.prog 148 [.agg (Zax x), .agg (Za1 f), iv base] (inss (Ze0 x f base)) := by
 obtain ⟨hs1, hs2, hs3, _, _⟩ := Zdx hs
 refine Zan tok Tryz.func148 rfl (by decide +kernel) (nB rfl) ?_
 refine Zap 0 (fun hl => ?_)
 have hl0 : x.args.length ≤ mL := hl.2.2.2.2.2.2.1.1
 have hmx : mL = 4294967296 := rfl
 clear hl
 have hgen : ∃ b, f.blocks.getD 0 default = b := ⟨_, rfl⟩
 obtain ⟨b, hbk⟩ := hgen
 have hb0 : f.blocks.getD (Int.toNat 0) default = b := hbk
 rw [hbk] at hs3
 (repeat' first | refine Zad ?_ | (refine Zaa tok (by rfl) ?_; conv => whnf) | refine Zaj ?_)
 refine Za3 (fun i : Nat => mkS [(2, iv base), (3, .bp (3, 0, 0) 0), (4, .bp (4, 0, 0) 0), (7, .rs (7, 1, 0) 7 0 i), (13, iv f.regs), (14, iv i)] [((3, 0, 0), Zam (Zax x)), ((4, 0, 0), Zam (Za1 f)), ((7, 1, 0), .row true 7 i (fun y => Zax ((opP x base i).getD y default)))])
  (fun i => i ≤ f.regs.toNat) (fun i => f.regs.toNat - i) 0 (Nat.zero_le _) ?_ ?_
 ·refine Weak.list [((3, 0, 0), .old (3, 0, 0), Zam (Zax x)), ((4, 0, 0), .old (4, 0, 0), Zam (Za1 f)), ((7, 1, 0), .nil, .row true 7 0 (fun y => Zax ((opP x base 0).getD y default)))] rfl (by rfl) ?_ (.old rfl (BLe.refl _) (.old rfl (BLe.refl _) (.new .nil)))
  ((repeat' first | exact TLes.nil | refine tE rfl ?_ | refine TLes.cons (TLe.nilL rfl ?_) ?_); (all_goals first | rfl | skip))
 intro i hi
 have hpl := opP_len x base i
 have hsucc := opP_succ x base i
 ((repeat' ((fail_if_success (show Rg 8)); first | refine Zad ?_ | (refine Zaa tok (by rfl) ?_; conv => whnf) | refine Zaj ?_ | (refine Zag ?_; conv => whnf) | (refine Za0 ?_; conv => whnf) | refine Zaf rfl (fun hb => ?_) (fun hb => ?_) | (refine uA ?_ ?_; rotate_left; (conv => whnf); rotate_right))); all_goals (try ((guard_target = Zac _ _ _ _); refine Zae ?_; (all_goals (try simp only [Zac, kZ, kA, kB, mL, Zab] at *)); all_goals omega)))
 ·have hlt : i < f.regs.toNat := by simp only [decide_eq_true_eq] at *; omega
  have hA : opA x base i = ⟨2, wi (base + i), x.args.getD i 0, 0, 0, 0, []⟩ := if_pos (by simp only [decide_eq_true_eq] at *; omega)
  clear hb
  refine Zaz (Weak.list (tl := [(2, iv base), (3, .bp (3, 0, 0) 0), (4, .bp (4, 0, 0) 0), (7, .rs (7, 1, 0) 7 0 i), (13, iv f.regs), (14, iv i), (9, .bp (9, 0, 0) 0)]) [((3, 0, 0), .old (3, 0, 0), Zam (Zax x)), ((4, 0, 0), .old (4, 0, 0), Zam (Za1 f)), ((7, 1, 0), .old (7, 1, 0), .row true 7 i (fun y => Zax ((opP x base i).getD y default))), ((9, 0, 0), .old (9, 0, 0), .row true 7 1 (fun _ => Zax (opA x base i)))] rfl (by rfl) ?_ (.old rfl (BLe.refl _) (.old rfl (BLe.refl _) (.old rfl (BLe.refl _) (.old rfl (BLe.rowW (Nat.le_refl _) (ltS ?_ lt0)) .nil))))) ?_
  ·((repeat' first | exact TLes.nil | refine tE rfl ?_); skip)
  ·rw [hA]
   exact .cons .refl (.cons .refl (.cons .refl (.cons .refl (.cons .refl (.cons .refl (.cons (.nsl rfl) .nil))))))
  ((repeat' first | (refine Zaa tok (by rfl) ?_; conv => whnf) | (refine uA ?_ ?_; rotate_left; (conv => whnf); rotate_right)); all_goals (try ((guard_target = Zac _ _ _ _); refine Zae ?_; (first | refine And.intro (Zcy rfl ?_) ?_ | skip); (all_goals (try simp only [Zac, kZ, kA, kB, mL, Zab] at *)); all_goals omega)))
  refine ⟨i + 1, hlt, by omega, ?_⟩
  refine Weak.list [((3, 0, 0), .old (3, 0, 0), Zam (Zax x)), ((4, 0, 0), .old (4, 0, 0), Zam (Za1 f)), ((7, 1, 0), .old (38, 0, 0), .row true 7 (i + 1) (fun y => Zax ((opP x base (i + 1)).getD y default)))] rfl (by rfl) ?_ (.old rfl (BLe.refl _) (.old rfl (BLe.refl _) (.old rfl (BLe.rowW (Nat.le_refl _) (fun z hz => Wks.of ?_)) .nil)))
  ·((repeat' first | exact TLes.nil | refine tE rfl ?_ | refine TLes.cons (TLe.int ?_) ?_); (all_goals first | ((try (simp only [Zac, kZ, kA, kB, mL, Zab] at *)); exact Zal (by omega) (by omega)) | skip))
  ·rw [hsucc]
   exact app_snoc Zax default 7 hpl.symm (fun q _ => rfl) rfl rfl hz
 ·have hlt : i < f.regs.toNat := by simp only [decide_eq_true_eq] at *; omega
  have hA : opA x base i = ⟨1, wi (base + i), 0, 0, 0, 0, []⟩ := if_neg (by simp only [decide_eq_false_iff_not] at hb; omega)
  clear hb
  refine Zaz (Weak.list (tl := [(2, iv base), (3, .bp (3, 0, 0) 0), (4, .bp (4, 0, 0) 0), (7, .rs (7, 1, 0) 7 0 i), (13, iv f.regs), (14, iv i), (9, .bp (9, 0, 0) 0)]) [((3, 0, 0), .old (3, 0, 0), Zam (Zax x)), ((4, 0, 0), .old (4, 0, 0), Zam (Za1 f)), ((7, 1, 0), .old (7, 1, 0), .row true 7 i (fun y => Zax ((opP x base i).getD y default))), ((9, 0, 0), .old (9, 0, 0), .row true 7 1 (fun _ => Zax (opA x base i)))] rfl (by rfl) ?_ (.old rfl (BLe.refl _) (.old rfl (BLe.refl _) (.old rfl (BLe.refl _) (.old rfl (BLe.rowW (Nat.le_refl _) (ltS ?_ lt0)) .nil))))) ?_
  ·((repeat' first | exact TLes.nil | refine tE rfl ?_); skip)
  ·rw [hA]
   exact .cons .refl (.cons .refl (.cons .refl (.cons .refl (.cons .refl (.cons .refl (.cons (.nsl rfl) .nil))))))
  ((repeat' first | (refine Zaa tok (by rfl) ?_; conv => whnf) | (refine uA ?_ ?_; rotate_left; (conv => whnf); rotate_right)); all_goals (try ((guard_target = Zac _ _ _ _); refine Zae ?_; (first | refine And.intro (Zcy rfl ?_) ?_ | skip); (all_goals (try simp only [Zac, kZ, kA, kB, mL, Zab] at *)); all_goals omega)))
  refine ⟨i + 1, hlt, by omega, ?_⟩
  refine Weak.list [((3, 0, 0), .old (3, 0, 0), Zam (Zax x)), ((4, 0, 0), .old (4, 0, 0), Zam (Za1 f)), ((7, 1, 0), .old (38, 0, 0), .row true 7 (i + 1) (fun y => Zax ((opP x base (i + 1)).getD y default)))] rfl (by rfl) ?_ (.old rfl (BLe.refl _) (.old rfl (BLe.refl _) (.old rfl (BLe.rowW (Nat.le_refl _) (fun z hz => Wks.of ?_)) .nil)))
  ·((repeat' first | exact TLes.nil | refine tE rfl ?_ | refine TLes.cons (TLe.int ?_) ?_); (all_goals first | ((try (simp only [Zac, kZ, kA, kB, mL, Zab] at *)); exact Zal (by omega) (by omega)) | skip))
  ·rw [hsucc]
   exact app_snoc Zax default 7 hpl.symm (fun q _ => rfl) rfl rfl hz
 have hin : i = f.regs.toNat := by simp only [decide_eq_false_iff_not] at hb; omega
 clear hb
 subst hin
 have hgen : ∃ A, opP x base f.regs.toNat = A := ⟨_, rfl⟩
 obtain ⟨A, hA⟩ := hgen
 rw [hA] at hpl
 clear hsucc
 have hib : (f.blocks.getD (Int.toNat 0) default).ins.length = b.ins.length := by rw [hb0]
 skip
 refine Za3 (fun i : Nat => mkS [(2, iv base), (3, .bp (3, 0, 0) 0), (4, .bp (4, 0, 0) 0), (7, .rs (7, 1, 0) 7 0 (f.regs.toNat + i)), (44, inss b.ins), (45, iv b.ins.length), (46, iv i)] [((3, 0, 0), Zam (Zax x)), ((4, 0, 0), Zam (Za1 f)), ((7, 1, 0), .row true 7 (f.regs.toNat + i) (fun y => Zax ((A ++ mvP b.ins base i).getD y default)))])
  (fun i => i ≤ b.ins.length) (fun i => b.ins.length - i) 0 (Nat.zero_le _) ?_ ?_
 ·refine Weak.list [((3, 0, 0), .old (3, 0, 0), Zam (Zax x)), ((4, 0, 0), .old (4, 0, 0), Zam (Za1 f)), ((7, 1, 0), .old (7, 1, 0), .row true 7 (f.regs.toNat + 0) (fun y => Zax ((A ++ mvP b.ins base 0).getD y default)))] rfl (by rfl) ?_ (.old rfl (BLe.refl _) (.old rfl (BLe.refl _) (.old rfl (BLe.rowW (Nat.le_refl _) (fun z hz => Wks.of ?_)) .nil)))
  ·rw [← hb0]
   ((repeat' first | exact TLes.nil | refine tE rfl ?_); skip)
  ·simp [mvP, hA]
 intro i hi
 have hml : (A ++ mvP b.ins base i).length = f.regs.toNat + i := by rw [List.length_append, hpl, mvP_len hi]
 ((repeat' ((fail_if_success (show Rg 13)); first | refine Zad ?_ | (refine Zaa tok (by rfl) ?_; conv => whnf) | (refine Za2 tok mix (by rfl) ?_; conv => whnf) | refine Zaj ?_ | (refine Zag ?_; conv => whnf) | (refine Za0 ?_; conv => whnf) | (refine Zah ?_; conv => whnf) | refine Zaf rfl (fun hb => ?_) (fun hb => ?_) | (refine uA ?_ ?_; rotate_left; (conv => whnf); rotate_right))); all_goals (try ((guard_target = Zac _ _ _ _); refine Zae ?_; (first | refine And.intro (Zcy rfl ?_) ?_ | skip); (all_goals (try simp only [Zac, kZ, kA, kB, mL, Zab] at *)); all_goals omega)))
 ·have hlt : i < b.ins.length := by simp only [decide_eq_true_eq] at hb; omega
  clear hb
  have hsucc := mvP_succ (base := base) hlt
  (repeat' (refine Zaa tok (by rfl) ?_; conv => whnf))
  refine .inl ⟨_, _, _, uG (QC.fc (c_moved (b.ins.getD (i : Int).toNat default) base) rfl), ?_⟩
  conv => whnf
  ((repeat' first | (refine Zaa tok (by rfl) ?_; conv => whnf) | (refine uA ?_ ?_; rotate_left; (conv => whnf); rotate_right)); all_goals (try ((guard_target = Zac _ _ _ _); refine Zae ?_; (first | refine And.intro (Zcy rfl ?_) ?_ | skip); (all_goals (try simp only [Zac, kZ, kA, kB, mL, Zab] at *)); all_goals omega)))
  refine ⟨i + 1, hlt, by omega, ?_⟩
  refine Weak.list [((3, 0, 0), .old (3, 0, 0), Zam (Zax x)), ((4, 0, 0), .old (4, 0, 0), Zam (Za1 f)), ((7, 1, 0), .old (55, 0, 0), .row true 7 (f.regs.toNat + (i + 1)) (fun y => Zax ((A ++ mvP b.ins base (i + 1)).getD y default)))] rfl (by rfl) ?_ (.old rfl (BLe.refl _) (.old rfl (BLe.refl _) (.old rfl (BLe.rowW (Nat.le_refl _) (fun z hz => Wks.of ?_)) .nil)))
  ·((repeat' first | exact TLes.nil | refine tE rfl ?_ | refine TLes.cons (TLe.int ?_) ?_); (all_goals first | ((try (simp only [Zac, kZ, kA, kB, mL, Zab] at *)); exact Zal (by omega) (by omega)) | skip))
  ·rw [hsucc, ← List.append_assoc]
   exact app_snoc Zax default 7 hml.symm (fun q _ => rfl) rfl (by rw [Int.toNat_natCast]; rfl) hz
 have hil : i = b.ins.length := by simp only [decide_eq_false_iff_not] at hb; omega
 subst hil
 clear hb
 skip
 have hO : Ze0 x f base = A ++ mvP b.ins base b.ins.length ++ [opEnd x f base] := by
  unfold Ze0 mvP; rw [hA, hbk, List.take_length]
 refine ⟨_, rfl, ?_⟩
 rw [hO]
 have hlen : (A ++ mvP b.ins base b.ins.length ++ [opEnd x f base]).length = f.regs.toNat + b.ins.length + 1 := by rw [List.length_append, hml]; rfl
 show Rel _ _ (.sl 7 _ _)
 rw [hlen]
 refine Rel.rs (imm := true) (k := f.regs.toNat + b.ins.length + 1) (f := appR (f.regs.toNat + b.ins.length) (fun y => Zax ((A ++ mvP b.ins base b.ins.length).getD y default)) (fun i => Zfd 7 [iv 2, iv x.dst, iv (wi (base + (f.blocks.getD (Int.toNat 0) default).fin.a)), iv 0, .int .u16 0, iv 0, .nsl] (0 + i))) rfl (by omega) (fun z hz => ?_)
 rw [Nat.zero_add z]
 refine rels_snoc (v := opEnd x f base) (c := [iv 2, iv x.dst, iv (wi (base + (f.blocks.getD (Int.toNat 0) default).fin.a)), iv 0, .int .u16 0, iv 0, .nsl]) hml.symm (fun q _ => rfl) rfl ?_ (by rw [hml]; exact hz)
 exact .cons (Rel.imm rfl) (.cons (Rel.imm rfl) (.cons (Rel.imm rfl) (.cons (Rel.imm rfl) (.cons (Rel.imm rfl) (.cons (Rel.imm rfl) (.cons (Rel.nsl' rfl) .nil))))))
set_option linter.unusedSimpArgs false
def inlX (m : Zak) (n : Nat) (x : Ins) : Bool := decide (x.op = 11 ∧ x.f ≠ n) && smallF (m.funcs.getD x.f.toNat default)
def blkX (m : Zak) (n : Nat) (x : Ins) : List Ins := if inlX m n x = true then Ze0 x (m.funcs.getD x.f.toNat default) (m.funcs.getD n default).regs else [x]
def outX (m : Zak) (n : Nat) (l : List Ins) : List Ins := l.flatMap (blkX m n)
def mrX (m : Zak) (n : Nat) (a : Int) (x : Ins) : Int := if inlX m n x = true then max a (m.funcs.getD x.f.toNat default).regs else a
def moreX (m : Zak) (n : Nat) (l : List Ins) : Int := l.foldl (mrX m n) 0
def Zca (m : Zak) (n : Nat) (l : List Ins) : List Ins × Int := if 64 < (outX m n l).length then (l, 0) else (outX m n l, moreX m n l)
theorem blkX_len (m : Zak) (n : Nat) (x : Ins) : (blkX m n x).length ≤ 33 := by
 unfold blkX
 split
 ·rename_i h
  unfold inlX at h
  rw [Bool.and_eq_true] at h
  obtain ⟨_, h2, h3, _⟩ := Zdx h.2
  rw [Zez]; omega
 ·simp
theorem outX_len (m : Zak) (n : Nat) : ∀ l : List Ins, (outX m n l).length ≤ 33 * l.length
 | [] => by simp [outX]
 | x :: r => by
  have := outX_len m n r
  have h2 := blkX_len m n x
  show (blkX m n x ++ outX m n r).length ≤ _
  rw [List.length_append, List.length_cons]; omega
theorem outX_succ (m : Zak) (n : Nat) {l : List Ins} {i : Nat} (h : i < l.length) : outX m n (l.take (i + 1)) = outX m n (l.take i) ++ blkX m n (l.getD i default) := by
 unfold outX; rw [Zb9 default h, List.flatMap_append]; simp
theorem moreX_succ (m : Zak) (n : Nat) {l : List Ins} {i : Nat} (h : i < l.length) : moreX m n (l.take (i + 1)) = mrX m n (moreX m n (l.take i)) (l.getD i default) := by
 unfold moreX; rw [Zb9 default h, List.foldl_append]; rfl
set_option maxHeartbeats 2000000 in
theorem c_block (m : Zak) (n : Nat) (l : List Ins) (hn : n < m.funcs.length) (hl64 : l.length ≤ 64) (hc : ∀ i, i < l.length → (l.getD i default).op = 11 → 0 ≤ (l.getD i default).f ∧ (l.getD i default).f < m.funcs.length) : FC Tryz.prog 102 [.agg (Zao m), iv n, inss l] (.tup [inss (Zca m n l).1, iv (Zca m n l).2]) := by
 refine Zan tok Tryz.func102 rfl (by decide +kernel) (nB rfl) ?_
 refine Zap 0 (fun hl => ?_)
 have hl0 : m.funcs.length ≤ mL := hl.1.1
 have hmx : mL = 4294967296 := rfl
 clear hl
 (repeat' first | refine Zad ?_ | (refine Zaa tok (by rfl) ?_; conv => whnf) | refine Zaj ?_)
 refine Za3 (fun i : Nat => mkS [(1, iv n), (2, inss l), (3, .bp (3, 0, 0) 0), (8, .rs (8, 1, 0) 7 0 (outX m n (l.take i)).length), (9, iv (moreX m n (l.take i))), (12, inss l), (13, iv l.length), (14, iv i)] [((3, 0, 0), Zam (Zao m)), ((8, 1, 0), .row true 7 (outX m n (l.take i)).length (fun y => Zax ((outX m n (l.take i)).getD y default)))])
  (fun i => i ≤ l.length) (fun i => l.length - i) 0 (Nat.zero_le _) ?_ ?_
 ·refine Weak.list [((3, 0, 0), .old (3, 0, 0), Zam (Zao m)), ((8, 1, 0), .nil, .row true 7 0 (fun y => Zax ((outX m n (l.take 0)).getD y default)))] rfl (by rfl) ?_ (.old rfl (BLe.refl _) (.new .nil))
  ((repeat' first | exact TLes.nil | refine tE rfl ?_ | refine TLes.cons (TLe.nilL rfl ?_) ?_); (all_goals first | rfl | skip))
 intro i hi
 have hol := outX_len m n (l.take i)
 have htl : (l.take i).length = i := by simp; omega
 rw [htl] at hol
 (repeat' ((fail_if_success (show Rg 5)); first | refine Zad ?_ | (refine Zaa tok (by rfl) ?_; conv => whnf) | refine Zaj ?_ | (refine Zag ?_; conv => whnf) | (refine Za0 ?_; conv => whnf) | (refine Zah ?_; conv => whnf) | refine Zaf rfl (fun hb => ?_) (fun hb => ?_)))
 ·have hlt : i < l.length := by simp only [decide_eq_true_eq] at hb; omega
  clear hb
  have hs1 := outX_succ m n hlt
  have hs2 := moreX_succ m n hlt
  have hx := hc i hlt
  have hgen : ∃ x, l.getD i default = x := ⟨_, rfl⟩
  obtain ⟨x, hxi⟩ := hgen
  rw [hxi] at hs1 hs2 hx
  have hgen : ∃ L, outX m n (l.take i) = L := ⟨_, rfl⟩
  obtain ⟨L, hL⟩ := hgen
  have hgen : ∃ a, moreX m n (l.take i) = a := ⟨_, rfl⟩
  obtain ⟨a, ha⟩ := hgen
  rw [hL] at hs1 hol
  rw [ha] at hs2
  refine Zaz (Weak.list (tl := [(1, iv n), (2, inss l), (3, .bp (3, 0, 0) 0), (8, .rs (8, 1, 0) 7 0 L.length), (9, iv a), (12, inss l), (13, iv l.length), (14, iv i)]) [((3, 0, 0), .old (3, 0, 0), Zam (Zao m)), ((8, 1, 0), .old (8, 1, 0), .row true 7 L.length (fun y => Zax (L.getD y default)))] rfl (by rfl) ?_ (.old rfl (BLe.refl _) (.old rfl (BLe.rowW (Nat.le_of_eq (by rw [hL])) (fun z hz => Wks.of (by rw [← hL]; rfl))) .nil))) ?_
  ·rw [← hL, ← ha]
   ((repeat' first | exact TLes.nil | refine tE rfl ?_); skip)
  ((repeat' ((fail_if_success (show Rg 6)); first | refine Zad ?_ | (refine Zaa tok (by rfl) ?_; conv => whnf) | (refine uA ?_ ?_; rotate_left; (conv => whnf); rotate_right))); all_goals (try ((guard_target = Zac _ _ _ _); refine Zae ?_; (all_goals (try simp only [Zac, kZ, kA, kB, mL, Zab] at *)); all_goals omega)))
  refine Zaz (Weak.list (tl := [(1, iv n), (2, inss l), (3, .bp (3, 0, 0) 0), (8, .rs (8, 1, 0) 7 0 L.length), (9, iv a), (12, inss l), (13, iv l.length), (14, iv i), (11, .bp (11, 0, 0) 0)]) [((3, 0, 0), .old (3, 0, 0), Zam (Zao m)), ((8, 1, 0), .old (8, 1, 0), .row true 7 L.length (fun y => Zax (L.getD y default))), ((11, 0, 0), .old (11, 0, 0), .row true 7 1 (fun _ => Zax x))] rfl (by rfl) ?_ (.old rfl (BLe.refl _) (.old rfl (BLe.refl _) (.old rfl (BLe.rowW (Nat.le_refl _) (ltS (Wks.of (by rw [← hxi, Int.toNat_natCast]; rfl)) lt0)) .nil)))) ?_
  ·((repeat' first | exact TLes.nil | refine tE rfl ?_); skip)
  ((repeat' ((fail_if_success (show Rg 7)); first | (refine Zaa tok (by rfl) ?_; conv => whnf) | (refine uA ?_ ?_; rotate_left; (conv => whnf); rotate_right))); all_goals (try ((guard_target = Zac _ _ _ _); ((refine Za7 ?_; intro hgd; (conv at hgd => whnf))); (all_goals (try simp only [Zac, kZ, kA, kB, mL, Zab] at *)); all_goals omega)))
  refine .inl ⟨_, _, _, uG (QC.fc (c_Small (m.funcs.getD x.f.toNat default)) rfl), ?_⟩
  conv => whnf
  ((repeat' ((fail_if_success (show Rg 10)); first | refine Zad ?_ | (refine Zaa tok (by rfl) ?_; conv => whnf) | (refine Za2 tok mix (by rfl) ?_; conv => whnf) | (refine Zag ?_; conv => whnf) | (refine Za0 ?_; conv => whnf) | refine Zaf rfl (fun hb => ?_) (fun hb => ?_) | (refine uA ?_ ?_; rotate_left; (conv => whnf); rotate_right))); all_goals (try ((guard_target = Zac _ _ _ _); refine Zae ?_; (first | refine And.intro (Zcy rfl ?_) ?_ | skip); (all_goals (try simp only [Zac, kZ, kA, kB, mL, Zab] at *)); all_goals omega)))
  ·have hin : inlX m n x = false := by
    unfold inlX
    rw [Bool.and_eq_false_iff, decide_eq_false_iff_not]
    simp [cond_eq_ite] at hb
    grind
   have hbx : blkX m n x = [x] := by unfold blkX; rw [hin]; rfl
   have hmr : mrX m n a x = a := by unfold mrX; rw [hin]; rfl
   rw [hbx] at hs1
   rw [hmr] at hs2
   clear hb
   (repeat' (refine Zaa tok (by rfl) ?_; conv => whnf))
   refine ⟨i + 1, hlt, by omega, ?_⟩
   refine Weak.list [((3, 0, 0), .old (3, 0, 0), Zam (Zao m)), ((8, 1, 0), .old (40, 0, 0), .row true 7 (outX m n (l.take (i + 1))).length (fun y => Zax ((outX m n (l.take (i + 1))).getD y default)))] rfl (by rfl) ?_ (.old rfl (BLe.refl _) (.old rfl (BLe.rowW ?_ (fun z hz => Wks.of ?_)) .nil))
   ·(repeat' first | exact TLes.nil | refine tE rfl ?_ | refine TLes.cons (TLe.rsL rfl ?_) ?_ | refine TLes.cons (TLe.int ?_) ?_)
    ·rw [hs1, List.length_append]; rfl
    ·rw [hs2]
    ·exact Zal (by omega) (by omega)
   ·rw [hs1, List.length_append]; exact Nat.le_refl _
   ·rw [hs1] at hz ⊢
    rw [List.length_append] at hz
    exact app_snoc Zax default 7 rfl (fun q _ => rfl) rfl rfl hz
  ·have hin : inlX m n x = true := by
    unfold inlX
    rw [Bool.and_eq_true, decide_eq_true_eq]
    simp [cond_eq_ite] at hb
    grind
   have hop : x.op = 11 := by
    unfold inlX at hin; rw [Bool.and_eq_true, decide_eq_true_eq] at hin; exact hin.1.1
   have hsm : smallF (m.funcs.getD x.f.toNat default) = true := by
    unfold inlX at hin; rw [Bool.and_eq_true] at hin; exact hin.2
   obtain ⟨hx1, hx2⟩ := hx hop
   have hbx : blkX m n x = Ze0 x (m.funcs.getD x.f.toNat default) (m.funcs.getD n default).regs := by unfold blkX; rw [hin]; rfl
   have hmr : mrX m n a x = max a (m.funcs.getD x.f.toNat default).regs := by unfold mrX; rw [hin]; rfl
   have hlo : (Ze0 x (m.funcs.getD x.f.toNat default) (m.funcs.getD n default).regs).length ≤ 33 := by
    rw [← hbx]; exact blkX_len m n x
   rw [hbx] at hs1
   rw [hmr] at hs2
   clear hb
   skip
   refine .inl ⟨_, _, _, uG (QC.fc (c_open x (m.funcs.getD x.f.toNat default) (m.funcs.getD n default).regs hsm) rfl), ?_⟩
   conv => whnf
   refine uA ?_ ?_
   ·((guard_target = Zac _ _ _ _); refine Zae ?_; (first | refine And.intro Zcx ?_ | skip); (all_goals (try simp only [Zac, kZ, kA, kB, mL, Zab] at *)); all_goals omega)
   conv => whnf
   skip
   refine AWp_max tok 8 rfl (by rfl) rfl rfl rfl rfl rfl ?_; conv => whnf
   refine uA ?_ ?_
   ·((guard_target = Zac _ _ _ _); refine Zae ?_; (all_goals (try simp only [Zac, kZ, kA, kB, mL, Zab] at *)); all_goals omega)
   conv => whnf
   refine ⟨_, _, _, rfl, rfl, rfl, ?_⟩
   conv => whnf
   (repeat' (refine Zaa tok (by rfl) ?_; conv => whnf))
   refine ⟨i + 1, hlt, by omega, ?_⟩
   refine Weak.list [((3, 0, 0), .old (3, 0, 0), Zam (Zao m)), ((8, 1, 0), .old (56, 0, 0), .row true 7 (outX m n (l.take (i + 1))).length (fun y => Zax ((outX m n (l.take (i + 1))).getD y default)))] rfl (by rfl) ?_ (.old rfl (BLe.refl _) (.old rfl (BLe.rowW ?_ (fun z hz => Wks.of ?_)) .nil))
   ·(repeat' first | exact TLes.nil | refine tE rfl ?_ | refine TLes.cons (TLe.rsL rfl ?_) ?_ | refine TLes.cons (TLe.int ?_) ?_)
    ·rw [hs1, List.length_append]
    ·rw [hs2]
    ·exact Zal (by omega) (by omega)
   ·rw [hs1, List.length_append]; exact Nat.le_refl _
   ·rw [hs1] at hz ⊢
    exact app_rows Zax default L _ rfl (fun q _ => rfl) (fun q _ => rfl) hz
 ·rename_i hbi
  have hil : i = l.length := by simp only [decide_eq_false_iff_not] at hbi; omega
  have h64 : 64 < (outX m n l).length := by rw [hil, List.take_length] at hb; simp only [decide_eq_true_eq] at hb; omega
  refine ⟨_, rfl, ?_⟩
  unfold Zca
  rw [if_pos h64]
  exact Rel.tup (.cons (Rel.imm rfl) (.cons (Rel.imm rfl) .nil))
 ·rename_i hbi
  have hil : i = l.length := by simp only [decide_eq_false_iff_not] at hbi; omega
  have h64 : ¬ 64 < (outX m n l).length := by rw [hil, List.take_length] at hb; simp only [decide_eq_false_iff_not] at hb; omega
  refine ⟨_, rfl, ?_⟩
  unfold Zca
  rw [if_neg h64]
  refine Rel.tup (.cons (Rel.row rfl rfl (by rw [hil, List.take_length]) (fun z _ => by rw [hil, List.take_length])) (.cons (Rel.int (by rw [hil, List.take_length])) .nil))
set_option linter.unusedSimpArgs false
theorem Zen {f g : Nat → List AV} {i : Nat} : appR 0 f g i = g i := rfl
theorem c_CloneIns (l : List Ins) : FO Tryz.prog 89 [inss l] 7 l.length (fun i => Zax (l.getD i default)) := by
 refine Zft tok Tryz.func89 rfl (by decide +kernel) (nB rfl) ?_
 refine Zap 0 (fun hl => ?_)
 have hl0 : l.length ≤ mL := hl.1
 ((repeat' first | refine Zad ?_ | (refine Zaa tok (by rfl) ?_; conv => whnf) | (refine Zag ?_; conv => whnf) | (refine Zah ?_; conv => whnf) | refine Zaf rfl (fun hb => ?_) (fun hb => ?_) | (refine uA ?_ ?_; rotate_left; (conv => whnf); rotate_right) | (refine fun (bn : Bool) (hbn : (0 < _ → bn = _)) => ?_; conv => whnf)); all_goals (try ((guard_target = Zac _ _ _ _); refine Zae ?_; (first | refine And.intro Zcx ?_ | skip); (all_goals (try simp only [Zac, kZ, kA, kB, mL, Zab] at *)); all_goals omega)))
 ·refine ⟨_, rfl, RelO.nsl' ?_⟩
  rcases Nat.eq_zero_or_pos l.length with h | h
  ·exact h
  ·rw [hbn h] at hb; cases hb
 ·refine ⟨_, rfl, RelO.rs rfl (Nat.le_refl _) (by simp) (fun i hi => ?_)⟩
  show appR 0 (Zfd 7 []) (fun i => Zax (l.getD i default)) i = _
  exact Zen
theorem c_CloneBlocks (l : List Zbs) : FO Tryz.prog 88 [Zd2 l] 14 l.length (fun i => Zbg (l.getD i default)) := by
 refine Zft tok Tryz.func88 rfl (by decide +kernel) (nB rfl) ?_
 refine Zap 0 (fun hl => ?_)
 have hl0 : l.length ≤ mL := hl.1
 ((repeat' first | refine Zad ?_ | (refine Zaa tok (by rfl) ?_; conv => whnf) | (refine Zag ?_; conv => whnf) | (refine Zah ?_; conv => whnf) | refine Zaf rfl (fun hb => ?_) (fun hb => ?_) | (refine uA ?_ ?_; rotate_left; (conv => whnf); rotate_right) | (refine fun (bn : Bool) (hbn : (0 < _ → bn = _)) => ?_; conv => whnf)); all_goals (try ((guard_target = Zac _ _ _ _); refine Zae ?_; (first | refine And.intro Zcx ?_ | skip); (all_goals (try simp only [Zac, kZ, kA, kB, mL, Zab] at *)); all_goals omega)))
 ·refine ⟨_, rfl, RelO.nsl' ?_⟩
  rcases Nat.eq_zero_or_pos l.length with h | h
  ·exact h
  ·rw [hbn h] at hb; cases hb
 ·refine ⟨_, rfl, RelO.rs rfl (Nat.le_refl _) (by simp) (fun i hi => ?_)⟩
  show appR 0 (Zfd 14 []) (fun i => Zbg (l.getD i default)) i = _
  exact Zen
theorem c_CloneFuncs (l : List Func) : FO Tryz.prog 87 [funcss l] 3 l.length (fun i => Za1 (l.getD i default)) := by
 refine Zft tok Tryz.func87 rfl (by decide +kernel) (nB rfl) ?_
 refine Zap 0 (fun hl => ?_)
 have hl0 : l.length ≤ mL := hl.1
 ((repeat' first | refine Zad ?_ | (refine Zaa tok (by rfl) ?_; conv => whnf) | (refine Zag ?_; conv => whnf) | (refine Zah ?_; conv => whnf) | refine Zaf rfl (fun hb => ?_) (fun hb => ?_) | (refine uA ?_ ?_; rotate_left; (conv => whnf); rotate_right) | (refine fun (bn : Bool) (hbn : (0 < _ → bn = _)) => ?_; conv => whnf)); all_goals (try ((guard_target = Zac _ _ _ _); refine Zae ?_; (first | refine And.intro Zcx ?_ | skip); (all_goals (try simp only [Zac, kZ, kA, kB, mL, Zab] at *)); all_goals omega)))
 ·refine ⟨_, rfl, RelO.nsl' ?_⟩
  rcases Nat.eq_zero_or_pos l.length with h | h
  ·exact h
  ·rw [hbn h] at hb; cases hb
 ·refine ⟨_, rfl, RelO.rs rfl (Nat.le_refl _) (by simp) (fun i hi => ?_)⟩
  show appR 0 (Zfd 3 []) (fun i => Za1 (l.getD i default)) i = _
  exact Zen
theorem c_CloneInts (l : List Int) : FO Tryz.prog 79 [ints l] 1 l.length (fun i => [iv (l.getD i 0)]) := by
 refine Zft tok Tryz.func79 rfl (by decide +kernel) (nB rfl) ?_
 refine Zap 0 (fun hl => ?_)
 have hl0 : l.length ≤ mL := hl.1
 ((repeat' first | refine Zad ?_ | (refine Zaa tok (by rfl) ?_; conv => whnf) | (refine Zag ?_; conv => whnf) | (refine Zah ?_; conv => whnf) | refine Zaf rfl (fun hb => ?_) (fun hb => ?_) | (refine uA ?_ ?_; rotate_left; (conv => whnf); rotate_right) | (refine fun (bn : Bool) (hbn : (0 < _ → bn = _)) => ?_; conv => whnf)); all_goals (try ((guard_target = Zac _ _ _ _); refine Zae ?_; (first | refine And.intro Zcx ?_ | skip); (all_goals (try simp only [Zac, kZ, kA, kB, mL, Zab] at *)); all_goals omega)))
 ·refine ⟨_, rfl, RelO.nsl' ?_⟩
  rcases Nat.eq_zero_or_pos l.length with h | h
  ·exact h
  ·rw [hbn h] at hb; cases hb
 ·refine ⟨_, rfl, RelO.rs rfl (Nat.le_refl _) (by simp) (fun i hi => ?_)⟩
  show appR 0 (Zfd 1 []) (fun i => [iv (l.getD i 0)]) i = _
  exact Zen
theorem c_CloneU16s (l : List Int) : FO Tryz.prog 68 [u16s l] 1 l.length (fun i => [.int .u16 (l.getD i 0)]) := by
 refine Zft tok Tryz.func68 rfl (by decide +kernel) (nB rfl) ?_
 refine Zap 0 (fun hl => ?_)
 have hl0 : l.length ≤ mL := hl.1
 ((repeat' first | refine Zad ?_ | (refine Zaa tok (by rfl) ?_; conv => whnf) | (refine Zag ?_; conv => whnf) | (refine Zah ?_; conv => whnf) | refine Zaf rfl (fun hb => ?_) (fun hb => ?_) | (refine uA ?_ ?_; rotate_left; (conv => whnf); rotate_right) | (refine fun (bn : Bool) (hbn : (0 < _ → bn = _)) => ?_; conv => whnf)); all_goals (try ((guard_target = Zac _ _ _ _); refine Zae ?_; (first | refine And.intro Zcx ?_ | skip); (all_goals (try simp only [Zac, kZ, kA, kB, mL, Zab] at *)); all_goals omega)))
 ·refine ⟨_, rfl, RelO.nsl' ?_⟩
  rcases Nat.eq_zero_or_pos l.length with h | h
  ·exact h
  ·rw [hbn h] at hb; cases hb
 ·refine ⟨_, rfl, RelO.rs rfl (Nat.le_refl _) (by simp) (fun i hi => ?_)⟩
  show appR 0 (Zfd 1 []) (fun i => [.int .u16 (l.getD i 0)]) i = _
  exact Zen
set_option linter.unusedSimpArgs false
def sel (b : Bool) (x y : AV) : AV := bif b then x else y
def blkO (b : Zbs) (x : AV) : List AV := [.bool b.landing, iv b.pad.dst, u16s b.pad.catch_, .bool b.pad.all, .bool b.pad.cleanup, x, iv b.fin.kind, iv b.fin.a, iv b.fin.dst, iv b.fin.f, ints b.fin.args, iv b.fin.to, iv b.fin.els, iv b.fin.pad]
def insR (l : List Ins) : Zau := .row true 7 l.length (fun j => Zax (l.getD j default))
def blkR (i : Nat) (l : List Zbs) (k : Nat) (c : Nat → AV) : Zau := .row false 14 l.length (fun q => blkO (l.getD q default) (sel (Nat.blt q k) (.rs (1001, i, q) 7 0 (l.getD q default).ins.length) (c q)))
def funR (l : List Func) (k : Nat) (c : Nat → AV) : Zau := .row false 3 l.length (fun j => [iv (l.getD j default).params, iv (l.getD j default).regs, sel (Nat.blt j k) (.rs (1000, j, 0) 14 0 (l.getD j default).blocks.length) (c j)])
def insF (l : List Func) (n k : Nat) : Zaq := famC 1001 (fun i q => bif (Nat.blt i n && Nat.blt q (l.getD i default).blocks.length) || (Nat.beq i n && Nat.blt q k) then some (insR ((l.getD i default).blocks.getD q default).ins) else none)
def blkF (l : List Func) (n : Nat) : Zaq := famC 1000 (fun i z => bif Nat.beq z 0 && Nat.blt i n then some (blkR i (l.getD i default).blocks (l.getD i default).blocks.length (fun _ => .any)) else none)
theorem Zbx {a i : Nat} (h : i ≤ a) {x y : AV} : sel (Nat.blt a i) x y = y := by
 have : Nat.blt a i = false := by rw [Bool.eq_false_iff]; intro h2; rw [Nat.blt_eq] at h2; omega
 rw [this]; rfl
theorem Zbn {a i : Nat} (h : a < i) {x y : AV} : sel (Nat.blt a i) x y = x := by
 have : Nat.blt a i = true := by rw [Nat.blt_eq]; exact h
 rw [this]; rfl
theorem Zew {i : Nat} {x y : AV} : sel (Nat.beq i i) x y = x := by
 have : Nat.beq i i = true := by simp
 rw [this]; rfl
theorem sel_ne {i j : Nat} (h : i ≠ j) {x y : AV} : sel (Nat.beq i j) x y = y := by
 have : Nat.beq i j = false := by rw [Bool.eq_false_iff]; intro h2; exact h (Nat.eq_of_beq_eq_true h2)
 rw [this]; rfl
theorem beq0_and {z n i : Nat} : (Nat.beq z 0 && Nat.blt i n) = true ↔ z = 0 ∧ i < n := by
 rw [Bool.and_eq_true, Nat.blt_eq]; simp
theorem blkF_some {l : List Func} {n : Nat} {j : Dv.Id} {b : Zau} (h : blkF l n j = some b) : ∃ i, j = (1000, i, 0) ∧ i < n ∧ b = blkR i (l.getD i default).blocks (l.getD i default).blocks.length (fun _ => .any) := by
 obtain ⟨p, q, rfl, h3⟩ := famC_some h
 cases e : (Nat.beq q 0 && Nat.blt p n) with
 | false => rw [e] at h3; cases h3
 | true =>
  rw [e] at h3
  obtain ⟨rfl, h2⟩ := beq0_and.1 e
  exact ⟨p, rfl, h2, (Option.some.inj h3).symm⟩
theorem blkF_at {l : List Func} {n i : Nat} (h : i < n) : blkF l n (1000, i, 0) = some (blkR i (l.getD i default).blocks (l.getD i default).blocks.length (fun _ => .any)) := by
 show (bif (Nat.beq 0 0 && Nat.blt i n) then _ else none) = _
 rw [beq0_and.2 ⟨rfl, h⟩]; rfl
theorem insC {n k i q nb : Nat} : ((Nat.blt i n && Nat.blt q nb) || (Nat.beq i n && Nat.blt q k)) = true ↔ (i < n ∧ q < nb) ∨ (i = n ∧ q < k) := by
 rw [Bool.or_eq_true, Bool.and_eq_true, Bool.and_eq_true, Nat.blt_eq, Nat.blt_eq, Nat.blt_eq]; simp
theorem insF_some {l : List Func} {n k : Nat} {j : Dv.Id} {b : Zau} (h : insF l n k j = some b) : ∃ i q, j = (1001, i, q) ∧ ((i < n ∧ q < (l.getD i default).blocks.length) ∨ (i = n ∧ q < k)) ∧ b = insR ((l.getD i default).blocks.getD q default).ins := by
 obtain ⟨p, q, rfl, h3⟩ := famC_some h
 cases e : ((Nat.blt p n && Nat.blt q (l.getD p default).blocks.length) || (Nat.beq p n && Nat.blt q k)) with
 | false => rw [e] at h3; cases h3
 | true => rw [e] at h3; exact ⟨p, q, rfl, insC.1 e, (Option.some.inj h3).symm⟩
theorem insF_at {l : List Func} {n k i q : Nat} (h : (i < n ∧ q < (l.getD i default).blocks.length) ∨ (i = n ∧ q < k)) : insF l n k (1001, i, q) = some (insR ((l.getD i default).blocks.getD q default).ins) := by
 show (bif ((Nat.blt i n && Nat.blt q (l.getD i default).blocks.length) || (Nat.beq i n && Nat.blt q k)) then _ else none) = _
 rw [insC.2 h]; rfl
def treeF (l : List Func) (n k : Nat) : Zaq := orH (blkF l n) (insF l n k)
theorem Zbm {l : List Func} {n k i : Nat} (h : i < n) : treeF l n k (1000, i, 0) = some (blkR i (l.getD i default).blocks (l.getD i default).blocks.length (fun _ => .any)) := by
 unfold treeF orH; rw [blkF_at h]
theorem Zbf {l : List Func} {n k i q : Nat} (h : (i < n ∧ q < (l.getD i default).blocks.length) ∨ (i = n ∧ q < k)) : treeF l n k (1001, i, q) = some (insR ((l.getD i default).blocks.getD q default).ins) := by
 show insF l n k (1001, i, q) = _
 exact insF_at h
theorem Zco {l : List Func} {n k : Nat} {j : Dv.Id} {b : Zau} (h : treeF l n k j = some b) : (∃ i, j = (1000, i, 0) ∧ i < n ∧ b = blkR i (l.getD i default).blocks (l.getD i default).blocks.length (fun _ => .any)) ∨
  ∃ i q, j = (1001, i, q) ∧ ((i < n ∧ q < (l.getD i default).blocks.length) ∨ (i = n ∧ q < k)) ∧ b = insR ((l.getD i default).blocks.getD q default).ins := by
 rcases orH_some h with e | ⟨_, e⟩
 ·exact .inl (blkF_some e)
 ·exact .inr (insF_some e)
def copyH (l : List Func) : Zaq := orH (Zbv [((900, 0, 0), funR l l.length (fun _ => .any))]) (treeF l l.length 0)
section
variable {src : Dv.Id → Option Dv.Id} {h h' : Zaq}
theorem GB_ins (l : List Ins) : GB src h h' (insR l) (insR l) := GB.rowI (Nat.le_refl _) (fun _ _ => ⟨rfl, rfl⟩)
theorem GVs_blk {b : Zbs} {x y : AV} (hx : GV src h h' x y) : GVs src h h' (blkO b x) (blkO b y) :=
 .i (.i (.i (.i (.i (.cons hx (GVs.imm rfl))))))
theorem Zeo {i i' : Nat} {l : List Zbs} {k k' : Nat} {c c' : Nat → AV} (hc : ∀ q, q < l.length → GV src h h' (sel (Nat.blt q k) (.rs (1001, i, q) 7 0 (l.getD q default).ins.length) (c q)) (sel (Nat.blt q k') (.rs (1001, i', q) 7 0 (l.getD q default).ins.length) (c' q))) :
  GB src h h' (blkR i l k c) (blkR i' l k' c') := GB.row (Nat.le_refl _) (fun q hq => GVs_blk (hc q hq)) (fun e => by cases e)
theorem GB_fun {l : List Func} {k k' : Nat} {c c' : Nat → AV} (hc : ∀ q, q < l.length → GV src h h' (sel (Nat.blt q k) (.rs (1000, q, 0) 14 0 (l.getD q default).blocks.length) (c q)) (sel (Nat.blt q k') (.rs (1000, q, 0) 14 0 (l.getD q default).blocks.length) (c' q))) :
  GB src h h' (funR l k c) (funR l k' c') := GB.row (Nat.le_refl _) (fun q hq => .i (.i (.cons (hc q hq) .nil))) (fun e => by cases e)
end
theorem keep_fun {src : Dv.Id → Option Dv.Id} {h h' : Zaq} {i j n m : Nat} {x : AV} {b b2 : Zau} (h1 : j < i → h' (1000, j, 0) = some b) (hs : src (1000, j, 0) = some (1000, j, 0)) (h27 : h' (27, 8, 0) = some b2) (hs27 : src (27, 8, 0) = some (27, 8, 0)) (hx : immD x = true) :
  GV src h h' (sel (Nat.blt j i) (.rs (1000, j, 0) 14 0 n) (sel (Nat.beq j i) (.rs (27, 8, 0) 14 0 m) x)) (sel (Nat.blt j i) (.rs (1000, j, 0) 14 0 n) (sel (Nat.beq j i) (.rs (27, 8, 0) 14 0 m) x)) := by
 by_cases hji : j < i
 ·exact .cc (Zbn hji) (Zbn hji) (.rs (h1 hji) hs rfl rfl)
 ·by_cases e : j = i
  ·subst e
   exact .cc (by rw [Zbx (Nat.le_refl _), Zew]) (by rw [Zbx (Nat.le_refl _), Zew]) (.rs h27 hs27 rfl rfl)
  ·exact .cc (by rw [Zbx (by omega), sel_ne e]) (by rw [Zbx (by omega), sel_ne e]) (.imm hx)
theorem tree_hd0 {fs : List Func} {n k : Nat} {c : Dv.Id} (hc : treeF fs n k c = none) : ∀ j, (treeF fs n k j).isSome = true → srcL [] j ≠ some c := fun j hj e => by
 cases e; rw [hc] at hj; cases hj
theorem srcL_hit {c : Dv.Id} {o : Option Dv.Id} : srcL [(c, o)] c = o := by simp [srcL, Zbe.2 rfl]
theorem srcL_miss {c j : Dv.Id} {o : Option Dv.Id} (h : c ≠ j) : srcL [(c, o)] j = some j := by simp [srcL, Zbq.2 h]
theorem updR_self {f : Nat → List AV} {k : Nat} {c : List AV} : updR f k c k = c := by
 unfold updR
 have : Nat.beq k k = true := by simp
 rw [this]; rfl
theorem keep_blk {src : Dv.Id → Option Dv.Id} {h h' : Zaq} {i k q n m : Nat} {x : AV} {b b2 : Zau} (h1 : q < k → h' (1001, i, q) = some b) (hs : src (1001, i, q) = some (1001, i, q)) (h57 : h' (57, 0, 0) = some b2) (hs57 : src (57, 0, 0) = some (57, 0, 0)) (hx : immD x = true := by rfl) :
  GV src h h' (sel (Nat.blt q k) (.rs (1001, i, q) 7 0 n) (sel (Nat.beq q k) (.rs (57, 0, 0) 7 0 m) x)) (sel (Nat.blt q k) (.rs (1001, i, q) 7 0 n) (sel (Nat.beq q k) (.rs (57, 0, 0) 7 0 m) x)) := by
 by_cases hji : q < k
 ·exact .cc (Zbn hji) (Zbn hji) (.rs (h1 hji) hs rfl rfl)
 ·by_cases e : q = k
  ·subst e
   exact .cc (by rw [Zbx (Nat.le_refl _), Zew]) (by rw [Zbx (Nat.le_refl _), Zew]) (.rs h57 hs57 rfl rfl)
  ·exact .cc (by rw [Zbx (by omega), sel_ne e]) (by rw [Zbx (by omega), sel_ne e]) (.imm hx)
theorem c_Copy (fs : List Func) : HF Tryz.prog 49 [.agg (Zao ⟨fs⟩)] (.agg [.rs (900, 0, 0) 3 0 fs.length]) (copyH fs) := by
 refine HF_intro tok Tryz.func49 rfl (by decide +kernel) (nB rfl) ?_
 refine Zap 0 (fun hl => ?_)
 have hl0 : fs.length ≤ mL := hl.1.1
 have hmx : mL = 4294967296 := rfl
 have hl1 : ∀ i, i < fs.length → (fs.getD i default).blocks.length ≤ mL ∧ ∀ k, k < (fs.getD i default).blocks.length → ((fs.getD i default).blocks.getD k default).ins.length ≤ mL := fun i hi => by
  have h1 := hl.1.2 i hi
  exact ⟨h1.2.2.1.1, fun k hk => (h1.2.2.1.2 k hk).2.2.2.2.2.1.1⟩
 clear hl
 (repeat' first | refine Zad ?_ | (refine Zaa tok (by rfl) ?_; conv => whnf))
 refine .inl ⟨_, _, _, uG (QC.fo (rd := []) (c_CloneFuncs fs) (Ress.imms rfl) (.inl rfl) rfl), ?_⟩
 conv => whnf
 (repeat' first | refine Zad ?_ | (refine Zaa tok (by rfl) ?_; conv => whnf) | refine Zaj ?_)
 refine Za3 (fun i : Nat => mkF [(1, .bp (1, 0, 0) 0), (2, .bp (2, 0, 0) 0), (14, iv fs.length), (15, iv i)]
   [((1, 0, 0), .row false 1 1 (fun _ => [.rs (10, 0, 0) 3 0 fs.length])), ((2, 0, 0), Zam [.nsl]), ((10, 0, 0), funR fs i (fun j => Zd2 (fs.getD j default).blocks))] (treeF fs i 0))
  (fun i => i ≤ fs.length) (fun i => fs.length - i) 0 (Nat.zero_le _) ?_ ?_
 ·refine Weak.fam [] rfl (fun i hi => by cases hi) ?_ ?_ ?_ (fun i hi => by cases hi)
  ·(repeat' first | exact TLg.nil | refine TLg.cons (GV.imm rfl) ?_ | refine TLg.cons (GV.bp rfl rfl) ?_)
   all_goals rfl
  ·refine .old rfl rfl (GB.one (.cons (.rs rfl rfl rfl rfl) .nil) (fun e => by cases e)) (.old rfl rfl (GB.one (GVs.imm rfl) (fun _ => rfl)) (.old rfl rfl (GB.row (Nat.le_refl _) (fun j hj => .i (.i (.cons ?_ .nil))) (fun e => by cases e)) .nil))
   rw [Zbx (Nat.zero_le _)]; exact GV.imm rfl
  ·intro j b e
   rcases Zco e with ⟨i, _, h, _⟩ | ⟨i, q, _, h, _⟩ <;> omega
 intro i hi
 ((repeat' ((fail_if_success (show Rg 6)); first | refine Zad ?_ | (refine Zaa tok (by rfl) ?_; conv => whnf) | refine Zaj ?_ | (refine Zag ?_; conv => whnf) | (refine Za0 ?_; conv => whnf) | (refine Zah ?_; conv => whnf) | refine Zaf rfl (fun hb => ?_) (fun hb => ?_) | (refine uA ?_ ?_; rotate_left; (conv => whnf); rotate_right))); all_goals (try ((guard_target = Zac _ _ _ _); refine Zae ?_; (all_goals (try simp only [Zac, kZ, kA, kB, mL, Zab] at *)); all_goals omega)))
 ·have hlt : i < fs.length := by simp only [decide_eq_true_eq] at hb; omega
  clear hb
  have hz : 0 + (i : Int).toNat = i := by simp
  ((repeat' ((fail_if_success (show Rg 7)); first | (refine Zaa tok (by rfl) ?_; conv => whnf) | (refine uA ?_ ?_; rotate_left; (conv => whnf); rotate_right))); all_goals (try ((guard_target = Zac _ _ _ _); refine Zae ?_; (all_goals (try simp only [Zac, kZ, kA, kB, mL, Zab] at *)); all_goals omega)))
  refine fAV (y := Zd2 (fs.getD i default).blocks) ?_ ?_
  ·show sel _ _ (Zd2 (fs.getD (0 + (i : Int).toNat) default).blocks) = _
   rw [hz, Zbx (Nat.le_refl _)]
  conv => whnf
  skip
  refine .inl ⟨_, _, _, uG (QC.fo (rd := []) (c_CloneBlocks (fs.getD i default).blocks) (Ress.imms rfl) (.inl rfl) rfl), ?_⟩
  conv => whnf
  ((repeat' ((fail_if_success (show Rg 7)); first | refine Zad ?_ | (refine uA ?_ ?_; rotate_left; (conv => whnf); rotate_right))); all_goals (try ((guard_target = Zac _ _ _ _); refine Zae ?_; (all_goals (try simp only [Zac, kZ, kA, kB, mL, Zab] at *)); all_goals omega)))
  have hbs : ∃ bs, (fs.getD i default).blocks = bs := ⟨_, rfl⟩
  obtain ⟨bs, hbs⟩ := hbs
  refine Zaz (Weak.fam (tl := [(1, .bp (1, 0, 0) 0), (2, .bp (2, 0, 0) 0), (14, iv fs.length), (15, iv i), (4, .rp (10, 0, 0) 3 i 0)]) (hl := [((1, 0, 0), .row false 1 1 (fun _ => [.rs (10, 0, 0) 3 0 fs.length])), ((2, 0, 0), Zam [.nsl]), ((10, 0, 0), funR fs i (fun j => sel (Nat.beq j i) (.rs (27, 8, 0) 14 0 bs.length) (Zd2 (fs.getD j default).blocks))), ((27, 8, 0), blkR i bs 0 (fun q => inss (bs.getD q default).ins))]) (F := treeF fs i 0) [((27, 8, 0), some (27, 0, 0))] rfl (fun i hi => by simp only [tgts, List.mem_singleton] at hi; subst hi; exact .inl rfl) ?_ ?_ ?_ (fun i hi => by cases hi)) ?_
  ·(repeat' first | exact TLg.nil | refine TLg.cons (GV.imm rfl) ?_ | refine TLg.cons (GV.bp rfl rfl) ?_ | refine TLg.cons (GV.rp rfl rfl ?_) ?_)
   all_goals first | rfl | exact hz
  ·refine .old rfl rfl (GB.one (.cons (.rs rfl rfl rfl rfl) .nil) (fun e => by cases e)) (.old rfl rfl (GB.one (GVs.imm rfl) (fun _ => rfl)) (.old rfl rfl (GB.row (Nat.le_refl _) (fun j hj => ?_) (fun e => by cases e)) (.old rfl rfl (GB.row ?_ (fun j hj => ?_) (fun e => by cases e)) .nil)))
   ·refine GVs.upd (fun e => ?_) (fun e => ?_)
    ·rw [hz] at e; subst e
     refine .cons (.int (by rw [hz])) (.cons (.int (by rw [hz])) (.cons ?_ .nil))
     exact .cc (x' := .rs (27, 0, 0) 14 0 (fs.getD j default).blocks.length) rfl (show sel _ _ (sel _ _ _) = _ by rw [Zbx (Nat.le_refl _), Zew]) (.rs rfl rfl rfl (by rw [hbs]))
    ·rw [hz] at e
     refine .i (.i (.cons ?_ .nil))
     by_cases hji : j < i
     ·exact .cc (show sel _ _ _ = _ from Zbn hji) (show sel _ _ (sel _ _ _) = _ from Zbn hji) (.rs (b := blkR j (fs.getD j default).blocks (fs.getD j default).blocks.length (fun _ => .any)) (Zbm hji) rfl rfl rfl)
     ·exact .cc (show sel _ _ _ = _ from Zbx (by omega)) (show sel _ _ (sel _ _ _) = _ by rw [Zbx (by omega), sel_ne e]) (.imm rfl)
   ·rw [hbs]; exact Nat.le_refl _
   ·subst hbs
    exact GVs_blk (.cc rfl (show sel _ _ _ = _ from Zbx (Nat.zero_le _)) (.imm rfl))
  ·intro j b e
   rcases Zco e with ⟨p, rfl, hp, rfl⟩ | ⟨p, q, rfl, hp, rfl⟩
   ·exact HOk.mk rfl (b0 := blkR p (fs.getD p default).blocks (fs.getD p default).blocks.length (fun _ => .any)) (Zbm hp) (Zeo (fun q hq => .cc (Zbn hq) (Zbn hq) (.rs (b := insR ((fs.getD p default).blocks.getD q default).ins) (Zbf (.inl ⟨hp, hq⟩)) rfl rfl rfl)))
   ·exact HOk.mk rfl (b0 := insR ((fs.getD p default).blocks.getD q default).ins) (Zbf hp) (GB_ins _)
  ((repeat' ((fail_if_success (show Rg 8)); first | (refine Zaa tok (by rfl) ?_; conv => whnf) | (refine uA ?_ ?_; rotate_left; (conv => whnf); rotate_right))); all_goals (try ((guard_target = Zac _ _ _ _); refine Zae ?_; (all_goals (try simp only [Zac, kZ, kA, kB, mL, Zab] at *)); all_goals omega)))
  refine fAV (y := .rs (27, 8, 0) 14 0 bs.length) (show sel (Nat.blt i i) _ (sel (Nat.beq i i) _ _) = _ by rw [Zbx (Nat.le_refl _), Zew]) ?_
  conv => whnf
  (repeat' ((fail_if_success (show Rg 8)); refine Zaj ?_))
  have hbl := (hl1 i hlt).1
  have hbl2 := (hl1 i hlt).2
  rw [hbs] at hbl hbl2
  clear hl1
  refine Za3 (fun k : Nat => mkF [(1, .bp (1, 0, 0) 0), (2, .bp (2, 0, 0) 0), (14, iv fs.length), (15, iv i), (4, .rp (10, 0, 0) 3 i 0), (34, iv bs.length), (35, iv k)] [((1, 0, 0), .row false 1 1 (fun _ => [.rs (10, 0, 0) 3 0 fs.length])), ((2, 0, 0), Zam [.nsl]), ((10, 0, 0), funR fs i (fun j => sel (Nat.beq j i) (.rs (27, 8, 0) 14 0 bs.length) (Zd2 (fs.getD j default).blocks))), ((27, 8, 0), blkR i bs k (fun q => inss (bs.getD q default).ins))] (treeF fs i k))
   (fun k => k ≤ bs.length) (fun k => bs.length - k) 0 (Nat.zero_le _) ?_ ?_
  ·refine Weak.fam [] rfl (fun i hi => by cases hi) ?_ ?_ ?_ (fun i hi => by cases hi)
   ·(repeat' first | exact TLg.nil | refine TLg.cons (GV.imm rfl) ?_ | refine TLg.cons (GV.bp rfl rfl) ?_)
    all_goals rfl
   ·refine .old rfl rfl (GB.one (.cons (.rs rfl rfl rfl rfl) .nil) (fun e => by cases e)) (.old rfl rfl (GB.one (GVs.imm rfl) (fun _ => rfl)) (.old rfl rfl (GB_fun (fun j hj => keep_fun (fun h => Zbm h) rfl rfl rfl rfl)) (.old rfl rfl (Zeo (fun q hq => .cc (Zbx (Nat.zero_le _)) (Zbx (Nat.zero_le _)) (.imm rfl))) .nil)))
   ·intro j b e
    rcases Zco e with ⟨p, rfl, hp, rfl⟩ | ⟨p, q, rfl, hp, rfl⟩
    ·exact HOk.mk rfl (b0 := blkR p (fs.getD p default).blocks (fs.getD p default).blocks.length (fun _ => .any)) (Zbm hp) (Zeo (fun q hq => .cc (Zbn hq) (Zbn hq) (.rs (b := insR ((fs.getD p default).blocks.getD q default).ins) (Zbf (.inl ⟨hp, hq⟩)) rfl rfl rfl)))
    ·exact HOk.mk rfl (b0 := insR ((fs.getD p default).blocks.getD q default).ins) (Zbf hp) (GB_ins _)
  intro k hk
  ((repeat' ((fail_if_success (show Rg 11)); first | refine Zad ?_ | (refine Zaa tok (by rfl) ?_; conv => whnf) | refine Zaj ?_ | (refine Zag ?_; conv => whnf) | (refine Za0 ?_; conv => whnf) | refine Zaf rfl (fun hb => ?_) (fun hb => ?_) | (refine uA ?_ ?_; rotate_left; (conv => whnf); rotate_right))); all_goals (try ((guard_target = Zac _ _ _ _); refine Zae ?_; (all_goals (try simp only [Zac, kZ, kA, kB, mL, Zab] at *)); all_goals omega)))
  ·have hkl : k < bs.length := by simp only [decide_eq_true_eq] at hb; omega
   clear hb
   have hzk : 0 + (k : Int).toNat = k := by simp
   have hbk := hbl2 k hkl
   refine fAV (y := .rs (27, 8, 0) 14 0 bs.length) (show sel (Nat.blt i i) _ (sel (Nat.beq i i) _ _) = _ by rw [Zbx (Nat.le_refl _), Zew]) ?_
   conv => whnf
   ((repeat' ((fail_if_success (show Rg 11)); first | refine Zad ?_ | (refine uA ?_ ?_; rotate_left; (conv => whnf); rotate_right))); all_goals (try ((guard_target = Zac _ _ _ _); refine Zae ?_; (all_goals (try simp only [Zac, kZ, kA, kB, mL, Zab] at *)); all_goals omega)))
   refine Zaz (Weak.fam (tl := [(1, .bp (1, 0, 0) 0), (2, .bp (2, 0, 0) 0), (14, iv fs.length), (15, iv i), (4, .rp (10, 0, 0) 3 i 0), (34, iv bs.length), (35, iv k), (6, .rp (27, 8, 0) 14 k 0)]) (hl := [((1, 0, 0), .row false 1 1 (fun _ => [.rs (10, 0, 0) 3 0 fs.length])), ((2, 0, 0), Zam [.nsl]), ((10, 0, 0), funR fs i (fun j => sel (Nat.beq j i) (.rs (27, 8, 0) 14 0 bs.length) (Zd2 (fs.getD j default).blocks))), ((27, 8, 0), blkR i bs k (fun q => inss (bs.getD q default).ins))]) (F := treeF fs i k) [] rfl (fun i hi => by cases hi) ?_ ?_ ?_ (fun i hi => by cases hi)) ?_
   ·(repeat' first | exact TLg.nil | refine TLg.cons (GV.imm rfl) ?_ | refine TLg.cons (GV.bp rfl rfl) ?_ | refine TLg.cons (GV.rp rfl rfl ?_) ?_)
    all_goals first | rfl | exact hzk
   ·refine .old rfl rfl (GB.one (.cons (.rs rfl rfl rfl rfl) .nil) (fun e => by cases e)) (.old rfl rfl (GB.one (GVs.imm rfl) (fun _ => rfl)) (.old rfl rfl (GB_fun (fun j hj => keep_fun (fun h => Zbm h) rfl rfl rfl rfl)) (.old rfl rfl (Zeo (fun q hq => ?_)) .nil)))
    by_cases hqk : q < k
    ·exact .cc (Zbn hqk) (Zbn hqk) (.rs (b := insR ((fs.getD i default).blocks.getD q default).ins) (Zbf (.inr ⟨rfl, hqk⟩)) rfl rfl rfl)
    ·exact .cc (Zbx (by omega)) (Zbx (by omega)) (.imm rfl)
   ·intro j b e
    rcases Zco e with ⟨p, rfl, hp, rfl⟩ | ⟨p, q, rfl, hp, rfl⟩
    ·exact HOk.mk rfl (b0 := blkR p (fs.getD p default).blocks (fs.getD p default).blocks.length (fun _ => .any)) (Zbm hp) (Zeo (fun q hq => .cc (Zbn hq) (Zbn hq) (.rs (b := insR ((fs.getD p default).blocks.getD q default).ins) (Zbf (.inl ⟨hp, hq⟩)) rfl rfl rfl)))
    ·exact HOk.mk rfl (b0 := insR ((fs.getD p default).blocks.getD q default).ins) (Zbf hp) (GB_ins _)
   conv => whnf
   refine (Za2 tok mix (by rfl) ?_)
   conv => whnf
   refine uA ?_ ?_
   ·((guard_target = Zac _ _ _ _); refine Zae ?_; (all_goals (try simp only [Zac, kZ, kA, kB, mL, Zab] at *)); all_goals omega)
   conv => whnf
   refine .inl ⟨_, _, _, uG (QC.fo (rd := []) (c_CloneU16s (bs.getD k default).pad.catch_) (Ress.imms rfl) (.inl rfl) rfl), ?_⟩
   conv => whnf
   refine uA ?_ ?_
   ·((guard_target = Zac _ _ _ _); refine Zae ?_; (all_goals (try simp only [Zac, kZ, kA, kB, mL, Zab] at *)); all_goals omega)
   conv => whnf
   refine fAV (y := inss (bs.getD k default).ins) (show sel (Nat.blt k k) _ _ = _ from Zbx (Nat.le_refl _)) ?_
   conv => whnf
   refine .inl ⟨_, _, _, uG (QC.fo (rd := []) (c_CloneIns (bs.getD k default).ins) (Ress.imms rfl) (.inl rfl) rfl), ?_⟩
   conv => whnf
   refine uA ?_ ?_
   ·((guard_target = Zac _ _ _ _); refine Zae ?_; (all_goals (try simp only [Zac, kZ, kA, kB, mL, Zab] at *)); all_goals omega)
   conv => whnf
   refine .inl ⟨_, _, _, uG (QC.fo (rd := []) (c_CloneInts (bs.getD k default).fin.args) (Ress.imms rfl) (.inl rfl) rfl), ?_⟩
   conv => whnf
   refine uA ?_ ?_
   ·((guard_target = Zac _ _ _ _); refine Zae ?_; (all_goals (try simp only [Zac, kZ, kA, kB, mL, Zab] at *)); all_goals omega)
   conv => whnf
   refine uA ?_ ?_
   ·((guard_target = Zac _ _ _ _); refine Zae ?_; (all_goals (try simp only [Zac, kZ, kA, kB, mL, Zab] at *)); all_goals omega)
   conv => whnf
   refine uA ?_ ?_
   ·((guard_target = Zac _ _ _ _); refine Zae ?_; (all_goals (try simp only [Zac, kZ, kA, kB, mL, Zab] at *)); all_goals omega)
   conv => whnf
   refine Zaz (Weak.fam (tl := [(1, .bp (1, 0, 0) 0), (2, .bp (2, 0, 0) 0), (14, iv fs.length), (15, iv i), (4, .rp (10, 0, 0) 3 i 0), (34, iv bs.length), (35, iv k), (6, .rp (27, 8, 0) 14 k 0)]) (hl := [((1, 0, 0), .row false 1 1 (fun _ => [.rs (10, 0, 0) 3 0 fs.length])), ((2, 0, 0), Zam [.nsl]), ((10, 0, 0), funR fs i (fun j => sel (Nat.beq j i) (.rs (27, 8, 0) 14 0 bs.length) (Zd2 (fs.getD j default).blocks))), ((27, 8, 0), blkR i bs k (fun q => sel (Nat.beq q k) (.rs (57, 0, 0) 7 0 (bs.getD k default).ins.length) (inss (bs.getD q default).ins))), ((57, 0, 0), insR (bs.getD k default).ins)]) (F := treeF fs i k) [] rfl (fun i hi => by cases hi) ?_ ?_ ?_ (fun i hi => by cases hi)) ?_
   ·(repeat' first | exact TLg.nil | refine TLg.cons (GV.imm rfl) ?_ | refine TLg.cons (GV.bp rfl rfl) ?_)
   ·refine .old rfl rfl (GB.one (.cons (.rs rfl rfl rfl rfl) .nil) (fun e => by cases e)) (.old rfl rfl (GB.one (GVs.imm rfl) (fun _ => rfl)) (.old rfl rfl (GB_fun (fun j hj => keep_fun (fun h => Zbm h) rfl rfl rfl rfl)) (.old rfl rfl (GB.row (Nat.le_refl _) (fun q hq => ?_) (fun e => by cases e)) (.old rfl rfl (GB_ins _) .nil))))
    by_cases hqk : q = k
    ·subst hqk
     repeat rw [updR_self]
     refine .i (.i (.cons (.frz (hd_of rfl (tree_hd0 rfl)) rfl (Nat.le_of_eq (Nat.zero_add _)) rfl (fun x hx => GVs.eqI rfl (by rw [Nat.zero_add])) (fun _ _ => rfl)) (.i (.i (.cons (.cc (x' := .rs (57, 0, 0) 7 0 (bs.getD q default).ins.length) rfl (show sel (Nat.blt q q) _ (sel (Nat.beq q q) _ _) = _ by rw [Zbx (Nat.le_refl _), Zew]) (.rs rfl rfl rfl rfl)) (.i (.i (.i (.i (.cons (.frz (hd_of rfl (tree_hd0 rfl)) rfl (Nat.le_of_eq (Nat.zero_add _)) rfl (fun x hx => GVs.eqI rfl (by rw [Nat.zero_add])) (fun _ _ => rfl)) (.i (.i (.i .nil)))))))))))))
    ·refine GVs.upd (fun e => absurd e hqk) (fun _ => GVs.upd (fun e => absurd e hqk) (fun _ => GVs.upd (fun e => absurd e hqk) (fun _ => GVs_blk ?_)))
     by_cases hlt2 : q < k
     ·exact .cc (Zbn hlt2) (Zbn hlt2) (.rs (b := insR ((fs.getD i default).blocks.getD q default).ins) (Zbf (.inr ⟨rfl, hlt2⟩)) rfl rfl rfl)
     ·exact .cc (Zbx (by omega)) (show sel _ _ (sel (Nat.beq q k) _ _) = _ by rw [Zbx (by omega), sel_ne hqk]) (.imm rfl)
   ·intro j b e
    rcases Zco e with ⟨p, rfl, hp, rfl⟩ | ⟨p, q, rfl, hp, rfl⟩
    ·exact HOk.mk rfl (b0 := blkR p (fs.getD p default).blocks (fs.getD p default).blocks.length (fun _ => .any)) (Zbm hp) (Zeo (fun q hq => .cc (Zbn hq) (Zbn hq) (.rs (b := insR ((fs.getD p default).blocks.getD q default).ins) (Zbf (.inl ⟨hp, hq⟩)) rfl rfl rfl)))
    ·exact HOk.mk rfl (b0 := insR ((fs.getD p default).blocks.getD q default).ins) (Zbf hp) (GB_ins _)
   refine Zad ?_
   refine (Zaa tok (by rfl) ?_)
   conv => whnf
   refine uA ?_ ?_
   ·((guard_target = Zac _ _ _ _); refine Zae ?_; (all_goals (try simp only [Zac, kZ, kA, kB, mL, Zab] at *)); all_goals omega)
   conv => whnf
   refine fAV (y := .rs (57, 0, 0) 7 0 (bs.getD k default).ins.length) (show sel (Nat.blt k k) _ (sel (Nat.beq k k) _ _) = _ by rw [Zbx (Nat.le_refl _), Zew]) ?_
   conv => whnf
   (repeat' refine Zaj ?_)
   refine Za3 (fun j : Nat => mkF [(1, .bp (1, 0, 0) 0), (2, .bp (2, 0, 0) 0), (14, iv fs.length), (15, iv i), (4, .rp (10, 0, 0) 3 i 0), (34, iv bs.length), (35, iv k), (6, .rp (27, 8, 0) 14 k 0), (76, iv (bs.getD k default).ins.length), (77, iv j)] [((1, 0, 0), .row false 1 1 (fun _ => [.rs (10, 0, 0) 3 0 fs.length])), ((2, 0, 0), Zam [.nsl]), ((10, 0, 0), funR fs i (fun j => sel (Nat.beq j i) (.rs (27, 8, 0) 14 0 bs.length) (Zd2 (fs.getD j default).blocks))), ((27, 8, 0), blkR i bs k (fun q => sel (Nat.beq q k) (.rs (57, 0, 0) 7 0 (bs.getD k default).ins.length) (inss (bs.getD q default).ins))), ((57, 0, 0), insR (bs.getD k default).ins)] (treeF fs i k)) (fun j => j ≤ (bs.getD k default).ins.length) (fun j => (bs.getD k default).ins.length - j) 0 (Nat.zero_le _) ?_ ?_
   ·refine Weak.fam [] rfl (fun i hi => by cases hi) ?_ ?_ ?_ (fun i hi => by cases hi)
    ·(repeat' first | exact TLg.nil | refine TLg.cons (GV.imm rfl) ?_ | refine TLg.cons (GV.bp rfl rfl) ?_)
    ·exact .old rfl rfl (GB.one (.cons (.rs rfl rfl rfl rfl) .nil) (fun e => by cases e)) (.old rfl rfl (GB.one (GVs.imm rfl) (fun _ => rfl)) (.old rfl rfl (GB_fun (fun j hj => keep_fun (fun h => Zbm h) rfl rfl rfl rfl)) (.old rfl rfl (Zeo (fun q hq => keep_blk (fun h => Zbf (.inr ⟨rfl, h⟩)) rfl rfl rfl)) (.old rfl rfl (GB_ins _) .nil))))
    ·intro j b e
     rcases Zco e with ⟨p, rfl, hp, rfl⟩ | ⟨p, q, rfl, hp, rfl⟩
     ·exact HOk.mk rfl (b0 := blkR p (fs.getD p default).blocks (fs.getD p default).blocks.length (fun _ => .any)) (Zbm hp) (Zeo (fun q hq => .cc (Zbn hq) (Zbn hq) (.rs (b := insR ((fs.getD p default).blocks.getD q default).ins) (Zbf (.inl ⟨hp, hq⟩)) rfl rfl rfl)))
     ·exact HOk.mk rfl (b0 := insR ((fs.getD p default).blocks.getD q default).ins) (Zbf hp) (GB_ins _)
   intro j hj
   (repeat' ((fail_if_success (show Rg 15)); first | refine Zad ?_ | (refine Zaa tok (by rfl) ?_; conv => whnf) | refine Zaj ?_ | (refine Zag ?_; conv => whnf) | (refine Za0 ?_; conv => whnf) | refine Zaf rfl (fun hb => ?_) (fun hb => ?_)))
   ·have hjl : j < (bs.getD k default).ins.length := by simp only [decide_eq_true_eq] at hb; omega
    clear hb
    have hzj : 0 + (j : Int).toNat = j := by simp
    refine (Za2 tok mix (by rfl) ?_)
    conv => whnf
    refine uA ?_ ?_
    ·((guard_target = Zac _ _ _ _); refine Zae ?_; (all_goals (try simp only [Zac, kZ, kA, kB, mL, Zab] at *)); all_goals omega)
    conv => whnf
    refine fAV (y := .rs (57, 0, 0) 7 0 (bs.getD k default).ins.length) (show sel (Nat.blt k k) _ (sel (Nat.beq k k) _ _) = _ by rw [Zbx (Nat.le_refl _), Zew]) ?_
    conv => whnf
    refine uA ?_ ?_
    ·((guard_target = Zac _ _ _ _); refine Zae ?_; (all_goals (try simp only [Zac, kZ, kA, kB, mL, Zab] at *)); all_goals omega)
    conv => whnf
    refine fAV (y := .rs (57, 0, 0) 7 0 (bs.getD k default).ins.length) (show sel (Nat.blt k k) _ (sel (Nat.beq k k) _ _) = _ by rw [Zbx (Nat.le_refl _), Zew]) ?_
    conv => whnf
    refine uA ?_ ?_
    ·((guard_target = Zac _ _ _ _); refine Zae ?_; (all_goals (try simp only [Zac, kZ, kA, kB, mL, Zab] at *)); all_goals omega)
    conv => whnf
    refine uA ?_ ?_
    ·((guard_target = Zac _ _ _ _); refine Zae ?_; (all_goals (try simp only [Zac, kZ, kA, kB, mL, Zab] at *)); all_goals omega)
    conv => whnf
    refine .inl ⟨_, _, _, uG (QC.fo (rd := []) (c_CloneInts ((bs.getD k default).ins.getD (0 + (j : Int).toNat) default).args) (Ress.imms rfl) (.inl rfl) rfl), ?_⟩
    conv => whnf
    ((repeat' first | (refine Zaa tok (by rfl) ?_; conv => whnf) | (refine uA ?_ ?_; rotate_left; (conv => whnf); rotate_right)); all_goals (try ((guard_target = Zac _ _ _ _); refine Zae ?_; (all_goals (try simp only [Zac, kZ, kA, kB, mL, Zab] at *)); all_goals omega)))
    refine ⟨j + 1, by omega, by omega, ?_⟩
    refine Weak.fam [] rfl (fun i hi => by cases hi) ?_ ?_ ?_ (fun i hi => by cases hi)
    ·(repeat' first | exact TLg.nil | refine TLg.cons (GV.imm rfl) ?_ | refine TLg.cons (GV.bp rfl rfl) ?_ | refine TLg.cons (GV.int ?_) ?_)
     all_goals first | rfl | (simp (disch := omega) only [Zal]; omega) | omega
    ·refine .old rfl rfl (GB.one (.cons (.rs rfl rfl rfl rfl) .nil) (fun e => by cases e)) (.old rfl rfl (GB.one (GVs.imm rfl) (fun _ => rfl)) (.old rfl rfl (GB_fun (fun j hj => keep_fun (fun h => Zbm h) rfl rfl rfl rfl)) (.old rfl rfl (Zeo (fun q hq => keep_blk (fun h => Zbf (.inr ⟨rfl, h⟩)) rfl rfl rfl)) (.old rfl rfl (GB.row (Nat.le_refl _) (fun q hq => GVs.upd (fun e => ?_) (fun _ => GVs.imm rfl)) (fun _ _ _ => rfl)) .nil))))
     rw [hzj] at e; subst e
     rw [hzj]
     exact .i (.i (.i (.i (.i (.i (.cons (.frz (hd_of rfl (tree_hd0 rfl)) rfl (Nat.le_of_eq (Nat.zero_add _)) rfl (fun x hx => GVs.eqI rfl (by rw [Nat.zero_add])) (fun _ _ => rfl)) .nil))))))
    ·intro j b e
     rcases Zco e with ⟨p, rfl, hp, rfl⟩ | ⟨p, q, rfl, hp, rfl⟩
     ·exact HOk.mk rfl (b0 := blkR p (fs.getD p default).blocks (fs.getD p default).blocks.length (fun _ => .any)) (Zbm hp) (Zeo (fun q hq => .cc (Zbn hq) (Zbn hq) (.rs (b := insR ((fs.getD p default).blocks.getD q default).ins) (Zbf (.inl ⟨hp, hq⟩)) rfl rfl rfl)))
     ·exact HOk.mk rfl (b0 := insR ((fs.getD p default).blocks.getD q default).ins) (Zbf hp) (GB_ins _)
   ·have hjl : j = (bs.getD k default).ins.length := by simp only [decide_eq_false_iff_not] at hb; omega
    clear hb
    skip
    refine ⟨k + 1, hkl, by omega, ?_⟩
    refine Weak.fam [((1001, i, k), some (57, 0, 0))] rfl (fun i hi => by simp only [tgts, List.mem_singleton] at hi; subst hi; exact .inl rfl) ?_ ?_ ?_ (fun i hi => by cases hi)
    ·(repeat' first | exact TLg.nil | refine TLg.cons (GV.imm rfl) ?_ | refine TLg.cons (GV.bp rfl rfl) ?_ | refine TLg.cons (GV.int ?_) ?_)
     all_goals first | rfl | (simp (disch := omega) only [Zal]; omega) | omega
    ·refine .old rfl rfl (GB.one (.cons (.rs rfl rfl rfl rfl) .nil) (fun e => by cases e)) (.old rfl rfl (GB.one (GVs.imm rfl) (fun _ => rfl)) (.old rfl rfl (GB_fun (fun j hj => keep_fun (fun h => Zbm h) rfl rfl rfl rfl)) (.old rfl rfl (Zeo (fun q hq => ?_)) .nil)))
     by_cases h1 : q < k
     ·exact .cc (Zbn h1) (Zbn (by omega)) (.rs (b := insR ((fs.getD i default).blocks.getD q default).ins) (Zbf (.inr ⟨rfl, by omega⟩)) (srcL_miss (fun e => by cases e; omega)) rfl rfl)
     ·by_cases h2 : q = k
      ·subst h2
       exact .cc (show sel _ _ (sel (Nat.beq q q) _ _) = _ by rw [Zbx (Nat.le_refl _), Zew]) (Zbn (by omega)) (.rs (b := insR ((fs.getD i default).blocks.getD q default).ins) (Zbf (.inr ⟨rfl, by omega⟩)) srcL_hit rfl rfl)
      ·exact .cc (show sel _ _ (sel (Nat.beq q k) _ _) = _ by rw [Zbx (by omega), sel_ne h2]) (Zbx (by omega)) (.imm rfl)
    ·intro j b e
     rcases Zco e with ⟨p, rfl, hp, rfl⟩ | ⟨p, q, rfl, hp, rfl⟩
     ·exact HOk.mk rfl (b0 := blkR p (fs.getD p default).blocks (fs.getD p default).blocks.length (fun _ => .any)) (Zbm hp) (Zeo (fun q hq => .cc (Zbn hq) (Zbn hq) (.rs (b := insR ((fs.getD p default).blocks.getD q default).ins) (Zbf (.inl ⟨hp, hq⟩)) (srcL_miss (fun e => by cases e; omega)) rfl rfl)))
     ·by_cases h2 : p = i ∧ q = k
      ·obtain ⟨rfl, rfl⟩ := h2
       exact HOk.mk srcL_hit (b0 := insR (bs.getD q default).ins) rfl (by rw [← hbs]; exact GB_ins _)
      ·exact HOk.mk (srcL_miss (fun e => h2 (by cases e; exact ⟨rfl, rfl⟩))) (b0 := insR ((fs.getD p default).blocks.getD q default).ins) (Zbf (by omega)) (GB_ins _)
  ·have hkl : k = bs.length := by simp only [decide_eq_false_iff_not] at hb; omega
   clear hb
   skip
   refine ⟨i + 1, hlt, by omega, ?_⟩
   subst hkl
   refine Weak.fam [((1000, i, 0), some (27, 8, 0))] rfl (fun i hi => by simp only [tgts, List.mem_singleton] at hi; subst hi; exact .inl rfl) ?_ ?_ ?_ (fun i hi => by cases hi)
   ·(repeat' first | exact TLg.nil | refine TLg.cons (GV.imm rfl) ?_ | refine TLg.cons (GV.bp rfl rfl) ?_ | refine TLg.cons (GV.int ?_) ?_)
    all_goals first | rfl | (simp (disch := omega) only [Zal]; omega) | omega
   ·refine .old rfl rfl (GB.one (.cons (.rs rfl rfl rfl rfl) .nil) (fun e => by cases e)) (.old rfl rfl (GB.one (GVs.imm rfl) (fun _ => rfl)) (.old rfl rfl (GB_fun (fun j hj => ?_)) .nil))
    by_cases h1 : j < i
    ·exact .cc (Zbn h1) (Zbn (by omega)) (.rs (b := blkR j (fs.getD j default).blocks (fs.getD j default).blocks.length (fun _ => .any)) (Zbm (by omega)) (srcL_miss (fun e => by cases e; omega)) rfl rfl)
    ·by_cases h2 : j = i
     ·subst h2
      exact .cc (show sel _ _ (sel (Nat.beq j j) _ _) = _ by rw [Zbx (Nat.le_refl _), Zew]) (Zbn (by omega)) (.rs (b := blkR j (fs.getD j default).blocks (fs.getD j default).blocks.length (fun _ => .any)) (Zbm (by omega)) srcL_hit rfl (by rw [hbs]))
     ·exact .cc (show sel _ _ (sel (Nat.beq j i) _ _) = _ by rw [Zbx (by omega), sel_ne h2]) (Zbx (by omega)) (.imm rfl)
   ·intro j b e
    rcases Zco e with ⟨p, rfl, hp, rfl⟩ | ⟨p, q, rfl, hp, rfl⟩
    ·by_cases h2 : p = i
     ·subst h2
      refine HOk.mk srcL_hit (b0 := blkR p bs bs.length (fun q => inss (bs.getD q default).ins)) rfl ?_
      rw [hbs]
      exact Zeo (fun q hq => .cc (Zbn hq) (Zbn hq) (.rs (b := insR ((fs.getD p default).blocks.getD q default).ins) (Zbf (.inl ⟨hp, by rw [hbs]; exact hq⟩)) rfl rfl rfl))
     ·exact HOk.mk (srcL_miss (fun e => h2 (by cases e; rfl))) (b0 := blkR p (fs.getD p default).blocks (fs.getD p default).blocks.length (fun _ => .any)) (Zbm (by omega)) (Zeo (fun q hq => .cc (Zbn hq) (Zbn hq) (.rs (b := insR ((fs.getD p default).blocks.getD q default).ins) (Zbf (.inl ⟨hp, hq⟩)) rfl rfl rfl)))
    ·refine HOk.mk rfl (b0 := insR ((fs.getD p default).blocks.getD q default).ins) (Zbf ?_) (GB_ins _)
     by_cases h2 : p = i
     ·subst h2; rw [hbs] at hp; omega
     ·omega
 ·have hil : i = fs.length := by simp only [decide_eq_false_iff_not] at hb; omega
  clear hb
  subst hil
  refine ⟨_, srcL [((900, 0, 0), some (10, 0, 0))], rfl, srcL_inj rfl (fun i hi => by simp only [tgts, List.mem_singleton] at hi; subst hi; exact .inl rfl), ?_, ?_⟩
  ·intro j b e
   rcases orH_some e with e | ⟨_, e⟩
   ·simp only [Zbv] at e
    cases e2 : idEq (900, 0, 0) j with
    | false => rw [e2] at e; cases e
    | true =>
     have := Zbe.1 e2; subst this
     rw [e2] at e; cases e
     exact HOk.mk rfl (b0 := funR fs fs.length (fun j => Zd2 (fs.getD j default).blocks)) rfl (GB_fun (fun j hj => .cc (Zbn hj) (Zbn hj) (.rs (b := blkR j (fs.getD j default).blocks (fs.getD j default).blocks.length (fun _ => .any)) (Zbm hj) rfl rfl rfl)))
   ·rcases Zco e with ⟨p, rfl, hp, rfl⟩ | ⟨p, q, rfl, hp, rfl⟩
    ·exact HOk.mk rfl (b0 := blkR p (fs.getD p default).blocks (fs.getD p default).blocks.length (fun _ => .any)) (Zbm hp) (Zeo (fun q hq => .cc (Zbn hq) (Zbn hq) (.rs (b := insR ((fs.getD p default).blocks.getD q default).ins) (Zbf (.inl ⟨hp, hq⟩)) rfl rfl rfl)))
    ·exact HOk.mk rfl (b0 := insR ((fs.getD p default).blocks.getD q default).ins) (Zbf hp) (GB_ins _)
  ·exact .agg (.cons (.rs rfl rfl rfl rfl) .nil)
set_option linter.unusedSimpArgs false
def blkR1 (l : List Zbs) : Zau := .row true 14 l.length (fun q => Zbg (l.getD q default))
def funR1 (l : List Func) (c : Nat → AV) : Zau := .row false 3 l.length (fun j => [iv (l.getD j default).params, iv (l.getD j default).regs, c j])
def blkF1 (l : List Func) (p : Nat → Bool) : Zaq := famC 1000 (fun j z => bif Nat.beq z 0 && (Nat.blt j l.length && p j) then some (blkR1 (l.getD j default).blocks) else none)
def mem1 (l : List Func) (j : Nat) : AV := .rs (1000, j, 0) 14 0 (l.getD j default).blocks.length
def modH1 (l : List Func) : Zaq := orH (Zbv [((900, 0, 0), funR1 l (mem1 l))]) (blkF1 l (fun _ => true))
theorem blkF1_some {l : List Func} {p : Nat → Bool} {j : Dv.Id} {b : Zau} (h : blkF1 l p j = some b) : ∃ i, j = (1000, i, 0) ∧ i < l.length ∧ p i = true ∧ b = blkR1 (l.getD i default).blocks := by
 obtain ⟨a, z, rfl, h3⟩ := famC_some h
 cases e : (Nat.beq z 0 && (Nat.blt a l.length && p a)) with
 | false => rw [e] at h3; cases h3
 | true =>
  rw [e] at h3
  rw [Bool.and_eq_true, Bool.and_eq_true, Nat.blt_eq] at e
  have := Nat.eq_of_beq_eq_true e.1
  subst this
  exact ⟨a, rfl, e.2.1, e.2.2, (Option.some.inj h3).symm⟩
theorem blkF1_at {l : List Func} {p : Nat → Bool} {i : Nat} (h : i < l.length) (hp : p i = true) : blkF1 l p (1000, i, 0) = some (blkR1 (l.getD i default).blocks) := by
 show (bif (Nat.beq 0 0 && (Nat.blt i l.length && p i)) then _ else none) = _
 have : (Nat.beq 0 0 && (Nat.blt i l.length && p i)) = true := by
  rw [Bool.and_eq_true, Bool.and_eq_true, Nat.blt_eq]; exact ⟨rfl, h, hp⟩
 rw [this]; rfl
theorem GB_blk1 {src : Dv.Id → Option Dv.Id} {h h' : Zaq} (l : List Zbs) : GB src h h' (blkR1 l) (blkR1 l) := GB.rowI (Nat.le_refl _) (fun _ _ => ⟨rfl, rfl⟩)
theorem copyH_sub (fs : List Func) (j : Dv.Id) (b : Zau) (e : modH1 fs j = some b) : (j = (900, 0, 0) ∧ b = funR1 fs (mem1 fs)) ∨ ∃ i, j = (1000, i, 0) ∧ i < fs.length ∧ b = blkR1 (fs.getD i default).blocks := by
 rcases orH_some e with e | ⟨_, e⟩
 ·simp only [Zbv] at e
  cases e2 : idEq (900, 0, 0) j with
  | false => rw [e2] at e; cases e
  | true => have := Zbe.1 e2; subst this; rw [e2] at e; cases e; exact .inl ⟨rfl, rfl⟩
 ·obtain ⟨i, rfl, h1, _, h2⟩ := blkF1_some e
  exact .inr ⟨i, rfl, h1, h2⟩
theorem modH1_at {l : List Func} {i : Nat} (h : i < l.length) : modH1 l (1000, i, 0) = some (blkR1 (l.getD i default).blocks) := (show blkF1 l (fun _ => true) (1000, i, 0) = _ from blkF1_at h rfl)
theorem c_Copy1 (fs : List Func) : HF Tryz.prog 49 [.agg (Zao ⟨fs⟩)] (.agg [.rs (900, 0, 0) 3 0 fs.length]) (modH1 fs) := by
 refine (c_Copy fs).weak (fun j => some j) (fun j j' i _ _ h1 h2 => some_inj j j' i h1 h2) (fun j b e => ?_) (.agg (.cons (.rs (b := funR1 fs (mem1 fs)) rfl rfl rfl rfl) .nil))
 rcases copyH_sub fs j b e with ⟨rfl, rfl⟩ | ⟨i, rfl, hi, rfl⟩
 ·refine HOk.mk rfl (b0 := funR fs fs.length (fun _ => .any)) rfl (GB.row (Nat.le_refl _) (fun j hj => .i (.i (.cons ?_ .nil))) (fun e => by cases e))
  exact .cc (Zbn hj) rfl (.rs (modH1_at hj) rfl rfl rfl)
 ·refine HOk.mk rfl (b0 := blkR i (fs.getD i default).blocks (fs.getD i default).blocks.length (fun _ => .any)) (show treeF fs fs.length 0 (1000, i, 0) = _ from Zbm hi) (GB.row (Nat.le_refl _) (fun q hq => ?_) (fun _ _ _ => rfl))
  refine .i (.i (.i (.i (.i (.cons ?_ (GVs.imm rfl))))))
  refine .cc (Zbn hq) rfl (.frz (k := ((fs.getD i default).blocks.getD q default).ins.length) (f := fun j => Zax (((fs.getD i default).blocks.getD q default).ins.getD j default)) (imm := true) (fun j hj e => ?_) (show treeF fs fs.length 0 (1001, i, q) = _ from Zbf (.inl ⟨hi, hq⟩)) (Nat.le_of_eq (Nat.zero_add _)) rfl (fun x hx => GVs.eqI rfl (by rw [Nat.zero_add])) (fun _ _ => rfl))
  cases e
  cases hj
theorem rel_mod1 (l : List Func) : Rel (modH1 l) (.agg [.rs (900, 0, 0) 3 0 l.length]) (.agg (Zao ⟨l⟩)) := by
 refine Rel.agg (Rels.cons (Rel.rs (imm := false) (k := l.length) (f := fun j => [iv (l.getD j default).params, iv (l.getD j default).regs, mem1 l j]) rfl (Nat.le_of_eq (Nat.zero_add _)) (fun i hi => ?_)) Rels.nil)
 rw [Nat.zero_add]
 refine Rels.cons (Rel.imm rfl) (Rels.cons (Rel.imm rfl) (Rels.cons (Rel.rs (imm := true) (k := (l.getD i default).blocks.length) (f := fun q => Zbg ((l.getD i default).blocks.getD q default)) (modH1_at hi) (Nat.le_of_eq (Nat.zero_add _)) (fun q hq => ?_)) Rels.nil))
 rw [Nat.zero_add]
 exact Rels.imm rfl
theorem c_CopyF (m : Zak) : FC Tryz.prog 49 [.agg (Zao m)] (.agg (Zao m)) := (c_Copy1 m.funcs).fc (rel_mod1 m.funcs)
set_option linter.unusedSimpArgs false
def w16 (x : Int) : Int := IntKind.u16.wrap x
def doW (op a b : Int) : Int × Bool :=
 if op = 2 then (a, true) else if op = 3 then (w16 (a + b), true) else if op = 4 then (w16 (a - b), true) else if op = 5 then (w16 (a * b), true)
 else if op = 6 then (if b = 0 then (0, false) else (w16 (a.tdiv b), true)) else if op = 7 then (if a = b then 1 else 0, true) else if op = 8 then (if a < b then 1 else 0, true) else (0, false)
def twoO (op : Int) : Bool := bif decide (2 < op) then decide (op ≤ 8) else false
def turnsO (op : Int) : Bool := decide (op = 3 ∨ op = 5 ∨ op = 7)
def noteW (m : List (List Int × Int)) (x : Ins) : List (List Int × Int) :=
 if x.op = 10 ∨ x.op = 12 then m else if x.op = 1 then mput m [x.dst] x.k else mdel m [x.dst]
end Go.Proofs.YtoelbgjpmpoolaaGreat
namespace Go.Proofs.YtoelbgjpmpoolaaGreat
open Go Dv
set_option maxRecDepth 10000
set_option linter.unusedSimpArgs false
structure Deed where
 op : Int
 a : Int
 b : Int
deriving DecidableEq, Inhabited
def Deed.l (d : Deed) : List Int := [d.op, d.a, d.b]
def ofD (x : Ins) : Deed := if turnsO x.op = true ∧ x.b < x.a then ⟨x.op, x.b, x.a⟩ else ⟨x.op, x.a, x.b⟩
abbrev κS : MK := ⟨true, 3, .i64, .i64⟩
def hit (p : Int) (q : List Int × Int) : Bool := decide (q.1.getD 1 0 = p) || decide (q.1.getD 2 0 = p) || decide (q.2 = p)
def Zc7 (m : List (List Int × Int)) (p : Int) : List (List Int × Int) := m.filter fun q => !hit p q
theorem Zfk (k : List Int) : ∀ {m : List (List Int × Int)}, (m.map (·.1)).Nodup → mdel m k = m.filter fun q => !decide (q.1 = k)
 | [], _ => rfl
 | (k', v') :: r, h => by
   simp only [List.map_cons, List.nodup_cons] at h
   simp only [mdel]
   split
   ·rename_i e; subst e
    rw [List.filter_cons_of_neg (by simp)]
    symm
    refine List.filter_eq_self.2 (fun q hq => ?_)
    simp only [Bool.not_eq_true', decide_eq_false_iff_not]
    intro e; exact h.1 (e ▸ List.mem_map.2 ⟨q, hq, rfl⟩)
   ·rename_i e
    rw [List.filter_cons_of_pos (by simpa using e), Zfk k h.2]
structure FInv (m : List (List Int × Int)) (p : Int) (clock : Nat) (es : Array MapEntry) (seen : Array Nat) (m' : List (List Int × Int)) : Prop where
 ok : MOk κS m' es clock
 same : Zc7 m' p = Zc7 m p
 past : ∀ e ∈ es.toList, seen.contains e.born = true → ∀ k v, (k, v) ∈ m' → e.key = keyV κS k → hit p (k, v) = false
theorem FInv.done {m : List (List Int × Int)} {p : Int} {clock : Nat} {es : Array MapEntry} {seen : Array Nat} {m' : List (List Int × Int)} (h : FInv m p clock es seen m') (h0 : (leftOf es seen).size = 0) : MOk κS (Zc7 m p) es clock := by
 rw [← h.same]
 have : Zc7 m' p = m' := List.filter_eq_self.2 (fun q hq => by
  have h1 : (keyV κS q.1, Value.int .i64 q.2) ∈ m'.map (fun p => (keyV κS p.1, Value.int κS.vk p.2)) := List.mem_map.2 ⟨q, hq, rfl⟩
  rw [← h.ok.kv] at h1
  obtain ⟨e, he, h2⟩ := List.mem_map.1 h1
  have h3 := Prod.mk.inj h2
  rw [h.past e he (all_seen es seen h0 e he) q.1 q.2 hq h3.1]; rfl)
 rw [this]; exact h.ok
abbrev Mp := List (List Int × Int)
def sameHit (m : Mp) (x : Ins) : Bool := bif twoO x.op then (Zcg m (ofD x).l).isSome else false
def sameY (m : Mp) (x : Ins) : Ins := if sameHit m x = true then ⟨2, x.dst, (Zcg m (ofD x).l).getD 0, 0, 0, 0, []⟩ else x
def sameOk (m : Mp) (x : Ins) : Bool := twoO x.op && !(Zcg m (ofD x).l).isSome
def sameM (m : Mp) (x : Ins) : Mp := if (sameY m x).op = 10 ∨ (sameY m x).op = 12 then m else
 if sameOk m x = true ∧ (sameY m x).dst ≠ (ofD x).a ∧ (sameY m x).dst ≠ (ofD x).b then mput (Zc7 m (sameY m x).dst) (ofD x).l (sameY m x).dst else Zc7 m (sameY m x).dst
def sameIns : Mp → List Ins → List Ins × Mp
 | m, [] => ([], m)
 | m, x :: r => (sameY m x :: (sameIns (sameM m x) r).1, (sameIns (sameM m x) r).2)
def sameAt (l : List Ins) (i : Nat) : List Ins := (sameIns [] (l.take i)).1 ++ l.drop i
section
variable (B : Zbs → Zbs)
def mapB (l : List Zbs) (k : Nat) : List Zbs := (List.range l.length).map fun q => if q < k then B (l.getD q default) else l.getD q default
end
theorem range_getD {α : Type} (d : α) (f : Nat → α) {n i : Nat} (h : i < n) : ((List.range n).map f).getD i d = f i := by
 simp [List.getD_eq_getElem?_getD, h]
theorem Zfl {B : Zbs → Zbs} (l : List Zbs) (k : Nat) : (mapB B l k).length = l.length := by simp [mapB]
theorem mapB_at {B : Zbs → Zbs} {l : List Zbs} {k q : Nat} (h : q < l.length) : (mapB B l k).getD q default = if q < k then B (l.getD q default) else l.getD q default := range_getD _ _ h
theorem mapB_all {B : Zbs → Zbs} (l : List Zbs) : mapB B l l.length = l.map B := by
 refine Zbk default (by simp [mapB]) (fun i hi => ?_)
 rw [Zfl] at hi
 rw [mapB_at hi, if_pos hi, Zbl (d := default) (l := l.map B) (by simpa using hi), Zbl _ hi]; simp
theorem modH1_dom {l : List Func} {i : Dv.Id} (h : (modH1 l i).isSome = true) : i = (900, 0, 0) ∨ ∃ j, i = (1000, j, 0) := by
 cases e : modH1 l i with
 | none => rw [e] at h; cases h
 | some b =>
  rcases copyH_sub l i b e with ⟨h1, _⟩ | ⟨j, h1, _⟩
  ·exact .inl h1
  ·exact .inr ⟨j, h1⟩
def errM (m : Zak) : Int := if Za6 m = true then 0 else 1
end Go.Proofs.YtoelbgjpmpoolaaGreat
namespace Go.Proofs.YtoelbgjpmpoolaaGreat
open Go Dv
set_option maxRecDepth 10000
set_option linter.unusedSimpArgs false
theorem c_rInts (a b : List Int) : FC Tryz.prog 63 [ints a, ints b] (.bool (decide (a = b))) := by
 refine Zan tok Tryz.func63 rfl (by decide +kernel) (nB rfl) ?_
 refine Zap 0 (fun hl => ?_)
 have hl0 : a.length ≤ mL := hl.1
 (repeat' first | refine Zad ?_ | (refine Zaa tok (by rfl) ?_; conv => whnf) | refine Zaj ?_ | (refine Zag ?_; conv => whnf) | (refine Zah ?_; conv => whnf) | refine Zaf rfl (fun hb => ?_) (fun hb => ?_))
 ·refine ⟨_, rfl, Rel.bool ?_⟩
  symm; rw [decide_eq_false_iff_not]
  intro e; subst e; simp at hb
 have hlen : a.length = b.length := by simp at hb; omega
 clear hb
 refine Za3 (fun i : Nat => mkS [(0, ints a), (1, ints b), (5, iv i)] [])
  (fun i => i ≤ a.length ∧ ∀ j, j < i → a.getD j 0 = b.getD j 0) (fun i => a.length - i) 0 ⟨Nat.zero_le _, by simp⟩ ?_ ?_
 ·refine Weak.list [] rfl (by rfl) ?_ .nil
  ((repeat' first | exact TLes.nil | refine tE rfl ?_); skip)
 rintro i ⟨hi2, hc⟩
 ((repeat' first | refine Zad ?_ | (refine Zaa tok (by rfl) ?_; conv => whnf) | (refine Za2 tok mix (by rfl) ?_; conv => whnf) | refine Zaj ?_ | (refine Zag ?_; conv => whnf) | (refine Za0 ?_; conv => whnf) | (refine Zah ?_; conv => whnf) | refine Zaf rfl (fun hb => ?_) (fun hb => ?_) | (refine uA ?_ ?_; rotate_left; (conv => whnf); rotate_right)); all_goals (try ((guard_target = Zac _ _ _ _); refine Zae ?_; (all_goals (try simp only [Zac, kZ, kA, kB, mL, Zab] at *)); all_goals omega)))
 ·have hlt : i < a.length := by rename_i h; simp only [Zac, kZ, kA, kB, mL, Zab] at *; omega
  refine ⟨_, rfl, Rel.bool ?_⟩
  symm; rw [decide_eq_false_iff_not]
  intro e; subst e; simp at hb
 ·have hlt : i < a.length := by rename_i h; simp only [Zac, kZ, kA, kB, mL, Zab] at *; omega
  refine ⟨i + 1, ⟨hlt, fun j hj => ?_⟩, by omega, ?_⟩
  ·by_cases e : j = i
   ·subst e; simpa using hb
   ·exact hc j (by omega)
  refine Weak.list [] rfl (by rfl) ?_ .nil
  ((repeat' first | exact TLes.nil | refine tE rfl ?_ | refine TLes.cons (TLe.int ?_) ?_); (all_goals first | ((try (simp only [Zac, kZ, kA, kB, mL, Zab] at *)); exact Zal (by omega) (by omega)) | skip))
 ·refine ⟨_, rfl, Rel.bool ?_⟩
  symm; rw [decide_eq_true_eq]
  exact Zbk 0 hlen (fun j hj => hc j (by simp only [Zac, kZ, kA, kB, mL, Zab] at *; omega))
theorem c_rSameIns (x y : Ins) : FC Tryz.prog 94 [.agg (Zax x), .agg (Zax y)] (.bool (decide (x = y))) := by
 refine Zan tok Tryz.func94 rfl (by decide +kernel) (nB rfl) ?_
 (repeat' first | refine Zad ?_ | (refine Zaa tok (by rfl) ?_; conv => whnf))
 refine .inl ⟨_, _, _, uG (QC.fc (c_rInts x.args y.args) rfl), ?_⟩
 conv => whnf
 (repeat' (refine Zah ?_; conv => whnf))
 refine ⟨_, rfl, Rel.bool ?_⟩
 obtain ⟨a1, a2, a3, a4, a5, a6, a7⟩ := x
 obtain ⟨b1, b2, b3, b4, b5, b6, b7⟩ := y
 rw [Bool.eq_iff_iff]
 simp [and_assoc]
theorem c_rSameEnd (x y : End) : FC Tryz.prog 93 [.agg (Zdi x), .agg (Zdi y)] (.bool (decide (x = y))) := by
 refine Zan tok Tryz.func93 rfl (by decide +kernel) (nB rfl) ?_
 (repeat' first | refine Zad ?_ | (refine Zaa tok (by rfl) ?_; conv => whnf))
 refine .inl ⟨_, _, _, uG (QC.fc (c_rInts x.args y.args) rfl), ?_⟩
 conv => whnf
 (repeat' (refine Zah ?_; conv => whnf))
 refine ⟨_, rfl, Rel.bool ?_⟩
 obtain ⟨a1, a2, a3, a4, a5, a6, a7, a8⟩ := x
 obtain ⟨b1, b2, b3, b4, b5, b6, b7, b8⟩ := y
 rw [Bool.eq_iff_iff]
 simp [and_assoc]
theorem c_rSamePad (x y : Pad) : FC Tryz.prog 92 [.agg (Zc1 x), .agg (Zc1 y)] (.bool (decide (x = y))) := by
 refine Zan tok Tryz.func92 rfl (by decide +kernel) (nB rfl) ?_
 refine Zap 0 (fun hl => ?_)
 have hl0 : x.catch_.length ≤ mL := hl.2.1.1
 obtain ⟨a1, a2, a3, a4⟩ := x
 obtain ⟨b1, b2, b3, b4⟩ := y
 simp only at hl0
 (repeat' first | refine Zad ?_ | (refine Zaa tok (by rfl) ?_; conv => whnf) | refine Zaj ?_ | (refine Zag ?_; conv => whnf) | (refine Zah ?_; conv => whnf) | refine Zaf rfl (fun hb => ?_) (fun hb => ?_))
 ·refine ⟨_, rfl, Rel.bool ?_⟩
  symm; rw [decide_eq_false_iff_not]
  intro e; cases e; simp at hb
 have hall : a1 = b1 ∧ a3 = b3 ∧ a4 = b4 ∧ a2.length = b2.length := by
  simp [and_assoc] at hb
  refine ⟨hb.1, hb.2.1, hb.2.2.1, ?_⟩
  have := hb.2.2.2; omega
 clear hb
 obtain ⟨rfl, rfl, rfl, hlen⟩ := hall
 refine Za3 (fun i : Nat => mkS [(2, .bp (2, 0, 0) 0), (3, .bp (3, 0, 0) 0), (5, iv i)] [((2, 0, 0), Zam (Zc1 ⟨a1, a2, a3, a4⟩)), ((3, 0, 0), Zam (Zc1 ⟨a1, b2, a3, a4⟩))])
  (fun i => i ≤ a2.length ∧ ∀ j, j < i → a2.getD j 0 = b2.getD j 0) (fun i => a2.length - i) 0 ⟨Nat.zero_le _, by simp⟩ ?_ ?_
 ·refine Weak.list [((2, 0, 0), .old (2, 0, 0), Zam (Zc1 ⟨a1, a2, a3, a4⟩)), ((3, 0, 0), .old (3, 0, 0), Zam (Zc1 ⟨a1, b2, a3, a4⟩))] rfl (by rfl) ?_ (.old rfl (BLe.refl _) (.old rfl (BLe.refl _) .nil))
  ((repeat' first | exact TLes.nil | refine tE rfl ?_); skip)
 rintro i ⟨hi2, hc⟩
 ((repeat' first | refine Zad ?_ | (refine Zaa tok (by rfl) ?_; conv => whnf) | (refine Za2 tok mix (by rfl) ?_; conv => whnf) | refine Zaj ?_ | (refine Zag ?_; conv => whnf) | (refine Za0 ?_; conv => whnf) | (refine Zah ?_; conv => whnf) | refine Zaf rfl (fun hb => ?_) (fun hb => ?_) | (refine uA ?_ ?_; rotate_left; (conv => whnf); rotate_right)); all_goals (try ((guard_target = Zac _ _ _ _); refine Zae ?_; (all_goals (try simp only [Zac, kZ, kA, kB, mL, Zab] at *)); all_goals omega)))
 ·have hlt : i < a2.length := by rename_i h; simp only [Zac, kZ, kA, kB, mL, Zab] at *; omega
  refine ⟨_, rfl, Rel.bool ?_⟩
  symm; rw [decide_eq_false_iff_not]
  intro e; cases e; simp at hb
 ·have hlt : i < a2.length := by rename_i h; simp only [Zac, kZ, kA, kB, mL, Zab] at *; omega
  refine ⟨i + 1, ⟨hlt, fun j hj => ?_⟩, by omega, ?_⟩
  ·by_cases e : j = i
   ·subst e; simpa using hb
   ·exact hc j (by omega)
  refine Weak.list [((2, 0, 0), .old (2, 0, 0), Zam (Zc1 ⟨a1, a2, a3, a4⟩)), ((3, 0, 0), .old (3, 0, 0), Zam (Zc1 ⟨a1, b2, a3, a4⟩))] rfl (by rfl) ?_ (.old rfl (BLe.refl _) (.old rfl (BLe.refl _) .nil))
  ((repeat' first | exact TLes.nil | refine tE rfl ?_ | refine TLes.cons (TLe.int ?_) ?_); (all_goals first | ((try (simp only [Zac, kZ, kA, kB, mL, Zab] at *)); exact Zal (by omega) (by omega)) | skip))
 ·refine ⟨_, rfl, Rel.bool ?_⟩
  symm; rw [decide_eq_true_eq]
  rw [Zbk 0 hlen (fun j hj => hc j (by simp only [Zac, kZ, kA, kB, mL, Zab] at *; omega))]
theorem c_rSameFunc (x y : Func) : FC Tryz.prog 54 [.agg (Za1 x), .agg (Za1 y)] (.bool (decide (x = y))) := by
 refine Zan tok Tryz.func54 rfl (by decide +kernel) (nB rfl) ?_
 refine Zap 0 (fun hl => ?_)
 have hl0 : x.blocks.length ≤ mL := hl.2.2.1.1
 have hl1 : ∀ i, i < x.blocks.length → (x.blocks.getD i default).ins.length ≤ mL := fun i hi => (hl.2.2.1.2 i hi).2.2.2.2.2.1.1
 have hmx : mL = 4294967296 := rfl
 clear hl
 obtain ⟨a1, a2, a3⟩ := x
 obtain ⟨b1, b2, b3⟩ := y
 simp only at hl0 hl1
 (repeat' first | refine Zad ?_ | (refine Zaa tok (by rfl) ?_; conv => whnf) | refine Zaj ?_ | (refine Zag ?_; conv => whnf) | (refine Zah ?_; conv => whnf) | refine Zaf rfl (fun hb => ?_) (fun hb => ?_))
 ·refine ⟨_, rfl, Rel.bool ?_⟩
  symm; rw [decide_eq_false_iff_not]
  intro e; cases e; simp at hb
 have hall : a1 = b1 ∧ a2 = b2 ∧ a3.length = b3.length := by
  simp [and_assoc] at hb
  refine ⟨hb.1, hb.2.1, ?_⟩
  have := hb.2.2; omega
 clear hb
 obtain ⟨rfl, rfl, hlen⟩ := hall
 refine Za3 (fun i : Nat => mkS [(2, .bp (2, 0, 0) 0), (3, .bp (3, 0, 0) 0), (5, iv i)] [((2, 0, 0), Zam (Za1 ⟨a1, a2, a3⟩)), ((3, 0, 0), Zam (Za1 ⟨a1, a2, b3⟩))])
  (fun i => i ≤ a3.length ∧ ∀ j, j < i → a3.getD j default = b3.getD j default) (fun i => a3.length - i) 0 ⟨Nat.zero_le _, by simp⟩ ?_ ?_
 ·refine Weak.list [((2, 0, 0), .old (2, 0, 0), Zam (Za1 ⟨a1, a2, a3⟩)), ((3, 0, 0), .old (3, 0, 0), Zam (Za1 ⟨a1, a2, b3⟩))] rfl (by rfl) ?_ (.old rfl (BLe.refl _) (.old rfl (BLe.refl _) .nil))
  ((repeat' first | exact TLes.nil | refine tE rfl ?_); skip)
 rintro i ⟨hi2, hc⟩
 ((repeat' ((fail_if_success (show Rg 7)); first | refine Zad ?_ | (refine Zaa tok (by rfl) ?_; conv => whnf) | (refine Za2 tok mix (by rfl) ?_; conv => whnf) | refine Zaj ?_ | (refine Zag ?_; conv => whnf) | (refine Za0 ?_; conv => whnf) | (refine Zah ?_; conv => whnf) | refine Zaf rfl (fun hb => ?_) (fun hb => ?_) | (refine uA ?_ ?_; rotate_left; (conv => whnf); rotate_right))); all_goals (try ((guard_target = Zac _ _ _ _); refine Zae ?_; (all_goals (try simp only [Zac, kZ, kA, kB, mL, Zab] at *)); all_goals omega)))
 ·have hlt : i < a3.length := by simp only [decide_eq_true_eq] at hb; omega
  clear hb
  have hil := hl1 i hlt
  have hii : (i : Int).toNat = i := Int.toNat_natCast i
  have hgen : ∃ p, a3.getD i default = p := ⟨_, rfl⟩
  obtain ⟨p, hp⟩ := hgen
  have hgen : ∃ q, b3.getD i default = q := ⟨_, rfl⟩
  obtain ⟨q, hq⟩ := hgen
  refine Zaz (Weak.list (tl := [(2, .bp (2, 0, 0) 0), (3, .bp (3, 0, 0) 0), (5, iv i), (6, .bp (6, 0, 0) 0), (7, .bp (7, 0, 0) 0)]) [((2, 0, 0), .old (2, 0, 0), Zam (Za1 ⟨a1, a2, a3⟩)), ((3, 0, 0), .old (3, 0, 0), Zam (Za1 ⟨a1, a2, b3⟩)), ((6, 0, 0), .old (6, 0, 0), .row true 14 1 (fun _ => Zbg p)), ((7, 0, 0), .old (7, 0, 0), .row true 14 1 (fun _ => Zbg q))] rfl (by rfl) ?_ (.old rfl (BLe.refl _) (.old rfl (BLe.refl _) (.old rfl (BLe.rowW (Nat.le_refl _) (ltS (Wks.of (by rw [← hp]; rfl)) lt0)) (.old rfl (BLe.rowW (Nat.le_refl _) (ltS (Wks.of (by rw [← hq]; rfl)) lt0)) .nil))))) ?_
  ·(repeat' first | exact TLes.nil | refine tE rfl ?_)
  have hne : p ≠ q → (⟨a1, a2, a3⟩ : Func) ≠ ⟨a1, a2, b3⟩ := fun h e => by cases e; exact h (hp.symm.trans hq)
  rw [hp] at hil
  (repeat' (refine Zaa tok (by rfl) ?_; conv => whnf))
  refine .inl ⟨_, _, _, uG (QC.fc (c_rSamePad p.pad q.pad) rfl), ?_⟩
  conv => whnf
  skip
  refine .inl ⟨_, _, _, uG (QC.fc (c_rSameEnd p.fin q.fin) rfl), ?_⟩
  conv => whnf
  (repeat' first | refine Zad ?_ | (refine Zaa tok (by rfl) ?_; conv => whnf) | refine Zaj ?_ | (refine Zag ?_; conv => whnf) | (refine Zah ?_; conv => whnf) | refine Zaf rfl (fun hb => ?_) (fun hb => ?_))
  ·refine ⟨_, rfl, Rel.bool ?_⟩
   symm; rw [decide_eq_false_iff_not]
   refine hne (fun e => ?_)
   subst e; simp at hb
  have hall : p.landing = q.landing ∧ p.pad = q.pad ∧ p.fin = q.fin ∧ p.ins.length = q.ins.length := by
   simp [and_assoc] at hb
   refine ⟨hb.1, hb.2.1, hb.2.2.1, ?_⟩
   have := hb.2.2.2; omega
  clear hb
  obtain ⟨e1, e2, e3, e4⟩ := hall
  refine Za3 (fun k : Nat => mkS [(2, .bp (2, 0, 0) 0), (3, .bp (3, 0, 0) 0), (5, iv i), (6, .bp (6, 0, 0) 0), (7, .bp (7, 0, 0) 0), (8, iv k)] [((2, 0, 0), Zam (Za1 ⟨a1, a2, a3⟩)), ((3, 0, 0), Zam (Za1 ⟨a1, a2, b3⟩)), ((6, 0, 0), .row true 14 1 (fun _ => Zbg p)), ((7, 0, 0), .row true 14 1 (fun _ => Zbg q))])
   (fun k => k ≤ p.ins.length ∧ ∀ j, j < k → p.ins.getD j default = q.ins.getD j default) (fun k => p.ins.length - k) 0 ⟨Nat.zero_le _, by simp⟩ ?_ ?_
  ·refine Weak.list [((2, 0, 0), .old (2, 0, 0), Zam (Za1 ⟨a1, a2, a3⟩)), ((3, 0, 0), .old (3, 0, 0), Zam (Za1 ⟨a1, a2, b3⟩)), ((6, 0, 0), .old (6, 0, 0), .row true 14 1 (fun _ => Zbg p)), ((7, 0, 0), .old (7, 0, 0), .row true 14 1 (fun _ => Zbg q))] rfl (by rfl) ?_ (.old rfl (BLe.refl _) (.old rfl (BLe.refl _) (.old rfl (BLe.refl _) (.old rfl (BLe.refl _) .nil))))
   ((repeat' first | exact TLes.nil | refine tE rfl ?_); skip)
  rintro k ⟨hk2, hc2⟩
  ((repeat' first | refine Zad ?_ | (refine Zaa tok (by rfl) ?_; conv => whnf) | (refine Za2 tok mix (by rfl) ?_; conv => whnf) | refine Zaj ?_ | (refine Zag ?_; conv => whnf) | (refine Za0 ?_; conv => whnf) | refine Zaf rfl (fun hb => ?_) (fun hb => ?_) | (refine uA ?_ ?_; rotate_left; (conv => whnf); rotate_right)); all_goals (try ((guard_target = Zac _ _ _ _); refine Zae ?_; (all_goals (try simp only [Zac, kZ, kA, kB, mL, Zab] at *)); all_goals omega)))
  ·have hlt2 : k < p.ins.length := by simp only [Zac, kZ, kA, kB, mL, Zab] at *; omega
   refine .inl ⟨_, _, _, uG (QC.fc (c_rSameIns (p.ins.getD (k : Int).toNat default) (q.ins.getD (k : Int).toNat default)) rfl), ?_⟩
   conv => whnf
   (repeat' first | refine Zad ?_ | (refine Zaa tok (by rfl) ?_; conv => whnf) | (refine Zag ?_; conv => whnf) | (refine Zah ?_; conv => whnf) | refine Zaf rfl (fun hb => ?_) (fun hb => ?_))
   ·refine ⟨_, rfl, Rel.bool ?_⟩
    symm; rw [decide_eq_false_iff_not]
    refine hne (fun e => ?_)
    subst e; simp at hb
   ·refine ⟨k + 1, ⟨hlt2, fun j hj => ?_⟩, by omega, ?_⟩
    ·by_cases e : j = k
     ·subst e; simpa using hb
     ·exact hc2 j (by omega)
    refine Weak.list [((2, 0, 0), .old (2, 0, 0), Zam (Za1 ⟨a1, a2, a3⟩)), ((3, 0, 0), .old (3, 0, 0), Zam (Za1 ⟨a1, a2, b3⟩)), ((6, 0, 0), .old (6, 0, 0), .row true 14 1 (fun _ => Zbg p)), ((7, 0, 0), .old (7, 0, 0), .row true 14 1 (fun _ => Zbg q))] rfl (by rfl) ?_ (.old rfl (BLe.refl _) (.old rfl (BLe.refl _) (.old rfl (BLe.refl _) (.old rfl (BLe.refl _) .nil))))
    ((repeat' first | exact TLes.nil | refine tE rfl ?_ | refine TLes.cons (TLe.int ?_) ?_); (all_goals first | ((try (simp only [Zac, kZ, kA, kB, mL, Zab] at *)); exact Zal (by omega) (by omega)) | skip))
  ·have hk3 : k = p.ins.length := by simp only [Zac, kZ, kA, kB, mL, Zab] at *; omega
   have hpq : p = q := by
    have e5 : p.ins = q.ins := Zbk default e4 (fun j hj => hc2 j (by omega))
    obtain ⟨p1, p2, p3, p4⟩ := p
    obtain ⟨q1, q2, q3, q4⟩ := q
    simp only at e1 e2 e3 e5
    subst e1; subst e2; subst e3; subst e5; rfl
   refine ⟨i + 1, ⟨hlt, fun j hj => ?_⟩, by omega, ?_⟩
   ·by_cases e : j = i
    ·subst e; rw [hp, hq, hpq]
    ·exact hc j (by omega)
   refine Weak.list [((2, 0, 0), .old (2, 0, 0), Zam (Za1 ⟨a1, a2, a3⟩)), ((3, 0, 0), .old (3, 0, 0), Zam (Za1 ⟨a1, a2, b3⟩))] rfl (by rfl) ?_ (.old rfl (BLe.refl _) (.old rfl (BLe.refl _) .nil))
   ((repeat' first | exact TLes.nil | refine tE rfl ?_ | refine TLes.cons (TLe.int ?_) ?_); (all_goals first | ((try (simp only [Zac, kZ, kA, kB, mL, Zab] at *)); exact Zal (by omega) (by omega)) | skip))
 ·refine ⟨_, rfl, Rel.bool ?_⟩
  symm; rw [decide_eq_true_eq]
  rw [Zbk default hlen (fun j hj => hc j (by simp only [Zac, kZ, kA, kB, mL, Zab] at *; omega))]
set_option linter.unusedSimpArgs false
def blkI (m : Zak) (n : Nat) (b : Zbs) : Zbs := { b with ins := (Zca m n b.ins).1 }
def mostL (m : Zak) (n : Nat) (l : List Zbs) : Int := l.foldl (fun a b => max a (Zca m n b.ins).2) 0
def bigF (m : Zak) (n : Nat) : Func := ⟨(m.funcs.getD n default).params, (m.funcs.getD n default).regs + mostL m n (m.funcs.getD n default).blocks, (m.funcs.getD n default).blocks.map (blkI m n)⟩
def funN (m : Zak) (n : Nat) : Func := if 256 < (bigF m n).regs then m.funcs.getD n default else bigF m n
theorem moreX_le (m : Zak) (n : Nat) (l : List Ins) : 0 ≤ moreX m n l ∧ moreX m n l ≤ 16 := by
 unfold moreX
 have : ∀ (l : List Ins) (a : Int), 0 ≤ a ∧ a ≤ 16 → 0 ≤ l.foldl (mrX m n) a ∧ l.foldl (mrX m n) a ≤ 16 := by
  intro l
  induction l with
  | nil => exact fun a h => h
  | cons x r ih =>
   intro a h
   refine ih _ ?_
   unfold mrX
   split
   ·rename_i hx
    unfold inlX at hx
    rw [Bool.and_eq_true] at hx
    have := (Zdx hx.2).2.1
    omega
   ·exact h
 exact this l 0 (by omega)
theorem blockI_le (m : Zak) (n : Nat) (l : List Ins) : 0 ≤ (Zca m n l).2 ∧ (Zca m n l).2 ≤ 16 := by
 unfold Zca
 split
 ·simp
 ·exact moreX_le m n l
theorem mostL_le (m : Zak) (n : Nat) (l : List Zbs) : 0 ≤ mostL m n l ∧ mostL m n l ≤ 16 := by
 unfold mostL
 have : ∀ (l : List Zbs) (a : Int), 0 ≤ a ∧ a ≤ 16 → 0 ≤ l.foldl (fun a b => max a (Zca m n b.ins).2) a ∧ l.foldl (fun a b => max a (Zca m n b.ins).2) a ≤ 16 := by
  intro l
  induction l with
  | nil => exact fun a h => h
  | cons x r ih =>
   intro a h
   refine ih _ ?_
   have := blockI_le m n x.ins
   show 0 ≤ max a (Zca m n x.ins).2 ∧ max a (Zca m n x.ins).2 ≤ 16
   omega
 exact this l 0 (by omega)
theorem mostL_succ (m : Zak) (n : Nat) {l : List Zbs} {i : Nat} (h : i < l.length) : mostL m n (l.take (i + 1)) = max (mostL m n (l.take i)) (Zca m n (l.getD i default).ins).2 := by
 unfold mostL; rw [Zb9 default h, List.foldl_append]; rfl
theorem right_ins {m : Zak} (h : Za6 m = true) {n i : Nat} (hn : n < m.funcs.length) (hi : i < (m.funcs.getD n default).blocks.length) : ((m.funcs.getD n default).blocks.getD i default).ins.length ≤ 64 := by
 have := Zel (right_funcs h hn) hi
 unfold blkB at this
 rw [Bool.and_eq_true, decide_eq_true_eq] at this
 exact this.1.1
theorem right_fun {m : Zak} (h : Za6 m = true) {n : Nat} (hn : n < m.funcs.length) : FunP (m.funcs.getD n default) := by
 have := right_funcs h hn
 unfold Zem at this
 rw [Bool.and_eq_true, decide_eq_true_eq] at this
 exact this.1
theorem mapB_nil {B : Zbs → Zbs} (l : List Zbs) : mapB B l 0 = l := by
 refine Zbk default (by simp [mapB]) (fun i hi => ?_)
 rw [Zfl] at hi
 rw [mapB_at hi, if_neg (Nat.not_lt_zero i)]
abbrev fcells (f : Func) (r : Int) : List AV := [iv f.params, iv r, .rs (901, 0, 0) 14 0 f.blocks.length]
set_option maxHeartbeats 4000000 in
theorem c_iFuncN (m : Zak) (n : Nat) (hr : Za6 m = true) (hn : n < m.funcs.length) : FC Tryz.prog 59 [.agg (Zao m), iv n] (.agg (Za1 (funN m n))) := by
 obtain ⟨fs⟩ := m
 simp only at hn
 have hgen : ∃ f, fs.getD n default = f := ⟨_, rfl⟩
 obtain ⟨f, hf⟩ := hgen
 have hF : FunP f := hf ▸ right_fun hr hn
 refine Zan tok Tryz.func59 rfl (by decide +kernel) (nB rfl) ?_
 refine Zap 0 (fun hl => ?_)
 have hl0 : fs.length ≤ mL := hl.1.1
 have hmx : mL = 4294967296 := rfl
 clear hl
 have hz : 0 + (n : Int).toNat = n := by simp
 have hfb : f.blocks.length ≤ 64 := hF.2.2.2.2.2.1
 (repeat' first | refine Zad ?_ | (refine Zaa tok (by rfl) ?_; conv => whnf))
 refine .inl ⟨_, _, _, uG (QC.fc (c_lRight c_lpad ⟨fs⟩) rfl), ?_⟩
 conv => whnf
 (repeat' ((fail_if_success (show Rg 2)); first | refine Zad ?_ | (refine Zaa tok (by rfl) ?_; conv => whnf) | (refine Zag ?_; conv => whnf) | refine Zaf rfl (fun hb => ?_) (fun hb => ?_)))
 ·exfalso
  rw [hr] at hb
  simp at hb
  omega
 clear hb
 skip
 refine .inr ⟨_, _, _, uG (QH.ofF (c_Copy1 fs) rfl (fun i hi => by rcases modH1_dom hi with rfl | ⟨j, rfl⟩ <;> rfl)), ?_⟩
 conv => whnf
 ((repeat' ((fail_if_success (show Rg 5)); first | refine Zad ?_ | (refine Zaa tok (by rfl) ?_; conv => whnf) | (refine uA ?_ ?_; rotate_left; (conv => whnf); rotate_right))); all_goals (try ((guard_target = Zac _ _ _ _); refine Zae ?_; (all_goals (try simp only [Zac, kZ, kA, kB, mL, Zab] at *)); all_goals omega)))
 have hZ : Zam [iv 0, iv 0, .nsl] = Zam [iv 0, iv 0, .nsl] := rfl
 clear hZ
 refine Zaz (Weak.fam (tl := [(1, iv n), (2, .bp (2, 0, 0) 0), (4, .bp (4, 0, 0) 0), (6, .bp (6, 0, 0) 0)]) (hl := [((2, 0, 0), Zam (Zao ⟨fs⟩)), ((4, 0, 0), Zam [iv 0, iv 0, .nsl]), ((6, 0, 0), .row false 3 1 (fun _ => fcells f f.regs)), ((901, 0, 0), blkR1 (mapB (blkI ⟨fs⟩ n) f.blocks 0))]) (F := noH) [((901, 0, 0), some (1000, n, 0))] rfl (fun c hc => by simp only [tgts, List.mem_singleton] at hc; subst hc; exact .inl rfl) ?_ ?_ noF (fun i hi => by cases hi)) ?_
 ·(repeat' first | exact TLg.nil | refine TLg.cons (GV.imm rfl) ?_ | refine TLg.cons (GV.bp rfl rfl) ?_)
  all_goals rfl
 ·refine .old rfl rfl (GB.one (GVs.imm rfl) (fun _ => rfl)) (.old rfl rfl (GB.one (GVs.imm rfl) (fun _ => rfl)) (.old rfl rfl (GB.one (.cons (.int (by rw [hz, hf])) (.cons (.int (by rw [hz, hf])) (.cons ?_ .nil))) (fun e => by cases e)) (.old rfl ?_ (GB_blk1 _) .nil)))
  ·exact .cc (x' := .rs (1000, n, 0) 14 0 f.blocks.length) (show AV.rs (1000, 0 + (n : Int).toNat, 0) 14 0 (fs.getD (0 + (n : Int).toNat) default).blocks.length = _ by rw [hz, hf]) rfl (.rs rfl srcL_hit rfl rfl)
  ·show bigH [] (modH1 fs) _ (1000, n, 0) = _
   unfold bigH
   rw [modH1_at hn]
   show some (blkR1 (fs.getD n default).blocks) = _
   rw [hf, mapB_nil]
 (repeat' ((fail_if_success (show Rg 7)); first | refine Zad ?_ | (refine Zaa tok (by rfl) ?_; conv => whnf) | refine Zaj ?_))
 refine Za3 (fun k : Nat => mkF [(1, iv n), (2, .bp (2, 0, 0) 0), (4, .bp (4, 0, 0) 0), (6, .bp (6, 0, 0) 0), (7, iv (mostL ⟨fs⟩ n (f.blocks.take k))), (35, iv f.blocks.length), (36, iv k)] [((2, 0, 0), Zam (Zao ⟨fs⟩)), ((4, 0, 0), Zam [iv 0, iv 0, .nsl]), ((6, 0, 0), .row false 3 1 (fun _ => fcells f f.regs)), ((901, 0, 0), blkR1 (mapB (blkI ⟨fs⟩ n) f.blocks k))] noH) (fun k => k ≤ f.blocks.length) (fun k => f.blocks.length - k) 0 (Nat.zero_le _) ?_ ?_
 ·refine Weak.fam [] rfl (fun i hi => by cases hi) ?_ ?_ noF (fun i hi => by cases hi)
  ·(repeat' first | exact TLg.nil | refine TLg.cons (GV.imm rfl) ?_ | refine TLg.cons (GV.bp rfl rfl) ?_)
   all_goals rfl
  ·exact .old rfl rfl (GB.one (GVs.imm rfl) (fun _ => rfl)) (.old rfl rfl (GB.one (GVs.imm rfl) (fun _ => rfl)) (.old rfl rfl (GB.one (.i (.i (.cons (.rs rfl rfl rfl rfl) .nil))) (fun e => by cases e)) (.old rfl rfl (GB_blk1 _) .nil)))
 intro k hk
 (repeat' ((fail_if_success (show Rg 8)); first | refine Zad ?_ | (refine Zaa tok (by rfl) ?_; conv => whnf) | refine Zaj ?_ | (refine Zag ?_; conv => whnf) | (refine Za0 ?_; conv => whnf) | (refine Zah ?_; conv => whnf) | refine Zaf rfl (fun hb => ?_) (fun hb => ?_)))
 ·have hkl : k < f.blocks.length := by simp only [decide_eq_true_eq] at hb; omega
  clear hb
  have hzk : 0 + (k : Int).toNat = k := by simp
  have hml : (mapB (blkI ⟨fs⟩ n) f.blocks k).length = f.blocks.length := Zfl _ _
  have hget : (mapB (blkI ⟨fs⟩ n) f.blocks k).getD (0 + (k : Int).toNat) default = f.blocks.getD k default := by
   rw [hzk, mapB_at hkl, if_neg (Nat.lt_irrefl k)]
  have hcall : ∀ b', b' = f.blocks.getD k default → FC Tryz.prog 102 [.agg (Zao ⟨fs⟩), iv n, inss b'.ins] (.tup [inss (Zca ⟨fs⟩ n (f.blocks.getD k default).ins).1, iv (Zca ⟨fs⟩ n (f.blocks.getD k default).ins).2]) := fun b' e => by
   subst e
   have h1 := right_ins hr hn (i := k) (by simp only; rw [hf]; exact hkl)
   have h2 := (blk_ok (Zel (right_funcs hr hn) (i := k) (by simp only; rw [hf]; exact hkl))).ins
   simp only [hf] at h1 h2
   exact c_block ⟨fs⟩ n _ hn h1 h2
  have hsucc := mostL_succ ⟨fs⟩ n hkl
  have hgen : ∃ p, Zca ⟨fs⟩ n (f.blocks.getD k default).ins = p := ⟨_, rfl⟩
  obtain ⟨p, hp⟩ := hgen
  rw [hp] at hcall hsucc
  ((repeat' ((fail_if_success (show Rg 10)); first | refine Zad ?_ | (refine Zaa tok (by rfl) ?_; conv => whnf) | (refine Za2 tok mix (by rfl) ?_; conv => whnf) | (refine uA ?_ ?_; rotate_left; (conv => whnf); rotate_right))); all_goals (try ((guard_target = Zac _ _ _ _); refine Zae ?_; (all_goals (try simp only [Zac, kZ, kA, kB, mL, Zab] at *)); all_goals omega)))
  refine .inl ⟨_, _, _, uG (QC.fc (hcall ((mapB (blkI ⟨fs⟩ n) f.blocks k).getD (0 + (k : Int).toNat) default) hget) rfl), ?_⟩
  conv => whnf
  (repeat' ((fail_if_success (show Rg 11)); first | refine Zad ?_ | (refine Za2 tok mix (by rfl) ?_; conv => whnf)))
  refine .inl ⟨_, _, _, uG (QC.fo (rd := []) (c_CloneIns p.1) (.i .nil) (.inl rfl) rfl), ?_⟩
  conv => whnf
  ((repeat' ((fail_if_success (show Rg 11)); (refine uA ?_ ?_; rotate_left; (conv => whnf); rotate_right))); all_goals (try ((guard_target = Zac _ _ _ _); refine Zae ?_; (all_goals (try simp only [Zac, kZ, kA, kB, mL, Zab] at *)); all_goals omega)))
  refine AWp_max tok 2 rfl (by rfl) rfl rfl rfl rfl rfl ?_; conv => whnf
  refine ⟨_, _, _, rfl, rfl, rfl, ?_⟩
  conv => whnf
  (repeat' (refine Zaa tok (by rfl) ?_; conv => whnf))
  refine ⟨k + 1, hkl, by omega, ?_⟩
  refine Weak.fam [] rfl (fun i hi => by cases hi) ?_ ?_ noF (fun i hi => by cases hi)
  ·(repeat' first | exact TLg.nil | refine TLg.cons (GV.imm rfl) ?_ | refine TLg.cons (GV.bp rfl rfl) ?_ | refine TLg.cons (GV.int ?_) ?_)
   ·rw [hsucc]
   ·exact Zal (by omega) (by omega)
  ·refine .old rfl rfl (GB.one (GVs.imm rfl) (fun _ => rfl)) (.old rfl rfl (GB.one (GVs.imm rfl) (fun _ => rfl)) (.old rfl rfl (GB.one (.i (.i (.cons (.rs rfl rfl rfl rfl) .nil))) (fun e => by cases e)) (.old rfl rfl (GB.row (Nat.le_of_eq (by rw [Zfl, Zfl])) (fun q hq => GVs.upd (fun e => ?_) (fun e => ?_)) (fun _ _ _ => rfl)) .nil)))
   ·rw [hzk] at e; subst e
    rw [mapB_at hkl, if_pos (Nat.lt_succ_self q), hget]
    refine .i (.i (.i (.i (.i (.cons (.frz (hd_no rfl) rfl (Nat.le_of_eq (Nat.zero_add _)) ?_ (fun x hx => GVs.eqI rfl ?_) (fun _ _ => rfl)) (GVs.imm rfl))))))
    ·show _ = (Zca ⟨fs⟩ n (f.blocks.getD q default).ins).1.length
     rw [hp]
    ·show Zax (p.1.getD (0 + x) default) = Zax ((Zca ⟨fs⟩ n (f.blocks.getD q default).ins).1.getD x default)
     rw [hp, Nat.zero_add]
   ·rw [hzk] at e
    rw [Zfl] at hq
    refine GVs.eqI rfl ?_
    rw [mapB_at hq, mapB_at hq]
    by_cases h1 : q < k
    ·rw [if_pos h1, if_pos (by omega)]
    ·rw [if_neg h1, if_neg (by omega)]
 all_goals
  have hkl : k = f.blocks.length := by rename_i hbk; simp only [decide_eq_false_iff_not] at hbk; omega
  subst hkl
  have hreg : (bigF ⟨fs⟩ n).regs = f.regs + mostL ⟨fs⟩ n f.blocks := by simp only [bigF, hf]
  have hml := mostL_le ⟨fs⟩ n f.blocks
  have hfr := hF.2.2.2.1
  have hfr0 : 0 ≤ f.regs := Int.le_trans hF.1 hF.2.2.1
  rw [List.take_length] at hb
  have hw : IntKind.i64.wrap (f.regs + mostL ⟨fs⟩ n f.blocks) = f.regs + mostL ⟨fs⟩ n f.blocks := Zal (by omega) (by omega)
  rw [hw] at hb
 ·have hN : funN ⟨fs⟩ n = f := by
   unfold funN; rw [if_pos (by rw [hreg]; simpa using hb)]; exact hf
  rw [hN]
  refine .inl ⟨_, _, _, uG (QC.fc (c_CopyF ⟨fs⟩) rfl), ?_⟩
  conv => whnf
  ((repeat' first | (refine Zah ?_; conv => whnf) | (refine uA ?_ ?_; rotate_left; (conv => whnf); rotate_right)); all_goals (try ((guard_target = Zac _ _ _ _); refine Zae ?_; (all_goals (try simp only [Zac, kZ, kA, kB, mL, Zab] at *)); all_goals omega)))
  refine ⟨_, rfl, ?_⟩
  rw [← hf]
  exact Rel.agg (Rels.imm rfl)
 ·have hN : funN ⟨fs⟩ n = bigF ⟨fs⟩ n := by
   unfold funN; rw [if_neg (by rw [hreg]; simpa using hb)]
  rw [hN]
  refine ⟨_, rfl, Rel.agg (.cons (Rel.int ?_) (.cons (Rel.int ?_) (.cons (Rel.row rfl (Zfl _ _).symm ?_ (fun z _ => ?_)) .nil)))⟩
  ·simp only [bigF, hf]
  ·rw [List.take_length, hw, hreg]
  ·simp only [bigF, hf, List.length_map]
  ·rw [mapB_all]; simp only [bigF, hf]
set_option linter.unusedSimpArgs false
def funcI (m : Zak) (n : Int) : Func := if Za6 m = true ∧ 0 ≤ n ∧ n < m.funcs.length then funN m n.toNat else ⟨0, 0, []⟩
theorem c_iFunc (m : Zak) (n : Int) : FC Tryz.prog 59 [.agg (Zao m), iv n] (.agg (Za1 (funcI m n))) := by
 by_cases h : Za6 m = true ∧ 0 ≤ n ∧ n < m.funcs.length
 ·have h1 := c_iFuncN m n.toNat h.1 (by omega)
  rw [show funcI m n = funN m n.toNat from if_pos h]
  rw [show ((n.toNat : Nat) : Int) = n from by omega] at h1
  exact h1
 ·rw [show funcI m n = ⟨0, 0, []⟩ from if_neg h]
  refine Zan tok Tryz.func59 rfl (by decide +kernel) (nB rfl) ?_
  refine Zap 0 (fun hl => ?_)
  have hl0 : m.funcs.length ≤ mL := hl.1.1
  clear hl
  (repeat' first | refine Zad ?_ | (refine Zaa tok (by rfl) ?_; conv => whnf))
  refine .inl ⟨_, _, _, uG (QC.fc (c_lRight c_lpad m) rfl), ?_⟩
  conv => whnf
  (repeat' ((fail_if_success (show Rg 2)); first | refine Zad ?_ | (refine Zaa tok (by rfl) ?_; conv => whnf) | (refine Zag ?_; conv => whnf) | refine Zaf rfl (fun hb => ?_) (fun hb => ?_)))
  ·(repeat' first | (refine Zaa tok (by rfl) ?_; conv => whnf) | (refine Zah ?_; conv => whnf))
   refine ⟨_, rfl, Rel.agg (.cons (Rel.imm rfl) (.cons (Rel.imm rfl) (.cons (Rel.nsl' rfl) .nil)))⟩
  ·exfalso
   simp at hb
   grind
def Zat (m : Zak) : Zak := if Za6 m = true then ⟨(List.range m.funcs.length).map (funN m)⟩ else m
theorem c_Copy0 (fs : List Func) : HF Tryz.prog 49 [.agg (Zao ⟨fs⟩)] (.agg [.rs (900, 0, 0) 3 0 fs.length]) (Zbv [((900, 0, 0), .row true 3 fs.length (fun j => Za1 (fs.getD j default)))]) := by
 refine (c_Copy1 fs).weak (fun j => some j) (fun j j' i _ _ h1 h2 => some_inj j j' i h1 h2) (fun j b e => ?_) (.agg (.cons (.rs (b := .row true 3 fs.length (fun j => Za1 (fs.getD j default))) rfl rfl rfl rfl) .nil))
 have hj : j = (900, 0, 0) ∧ b = .row true 3 fs.length (fun j => Za1 (fs.getD j default)) := by
  simp only [Zbv] at e
  cases e2 : idEq (900, 0, 0) j with
  | false => rw [e2] at e; cases e
  | true => have := Zbe.1 e2; subst this; rw [e2] at e; cases e; exact ⟨rfl, rfl⟩
 obtain ⟨rfl, rfl⟩ := hj
 refine HOk.mk rfl (b0 := funR1 fs (mem1 fs)) rfl (GB.row (Nat.le_refl _) (fun j hj => .i (.i (.cons ?_ .nil))) (fun _ _ _ => rfl))
 exact .frz (k := (fs.getD j default).blocks.length) (f := fun q => Zbg ((fs.getD j default).blocks.getD q default)) (imm := true) (fun j hj e => by cases e; cases hj) (modH1_at hj) (Nat.le_of_eq (Nat.zero_add _)) rfl (fun x hx => GVs.eqI rfl (by rw [Nat.zero_add])) (fun _ _ => rfl)
def curI (m : Zak) (n : Nat) : List Func := (List.range m.funcs.length).map fun j => if j < n then funN m j else m.funcs.getD j default
theorem curI_len (m : Zak) (n : Nat) : (curI m n).length = m.funcs.length := by simp [curI]
theorem curI_at {m : Zak} {n q : Nat} (h : q < m.funcs.length) : (curI m n).getD q default = if q < n then funN m q else m.funcs.getD q default := range_getD _ _ h
theorem curI_zero (m : Zak) : curI m 0 = m.funcs := by
 refine Zbk default (by simp [curI]) (fun i hi => ?_)
 rw [curI_len] at hi
 rw [curI_at hi, if_neg (Nat.not_lt_zero i)]
theorem curI_all {m : Zak} (h : Za6 m = true) : (⟨curI m m.funcs.length⟩ : Zak) = Zat m := by
 unfold Zat
 rw [if_pos h]
 congr 1
 refine Zbk default (by simp [curI]) (fun i hi => ?_)
 rw [curI_len] at hi
 rw [curI_at hi, if_pos hi, range_getD _ _ hi]
set_option maxHeartbeats 2000000 in
theorem c_iModule (m : Zak) : FC Tryz.prog 22 [.agg (Zao m)] (.tup [.agg (Zao (Zat m)), iv (errM m)]) := by
 obtain ⟨fs⟩ := m
 refine Zan tok Tryz.func22 rfl (by decide +kernel) (nB rfl) ?_
 refine Zap 0 (fun hl => ?_)
 have hl0 : fs.length ≤ mL := hl.1.1
 have hmx : mL = 4294967296 := rfl
 clear hl
 (repeat' first | refine Zad ?_ | (refine Zaa tok (by rfl) ?_; conv => whnf))
 refine .inr ⟨_, _, _, uG (QH.ofF (c_Copy0 fs) rfl (fun i hi => by
  have : i = (900, 0, 0) := by
   simp only [Zbv] at hi
   cases e2 : idEq (900, 0, 0) i with
   | false => rw [e2] at hi; cases hi
   | true => exact (Zbe.1 e2).symm
  subst this; rfl)), ?_⟩
 conv => whnf
 (repeat' first | refine Zad ?_ | (refine Zaa tok (by rfl) ?_; conv => whnf))
 refine .inl ⟨_, _, _, uG (QC.fc (c_lRight c_lpad ⟨fs⟩) rfl), ?_⟩
 conv => whnf
 (repeat' ((fail_if_success (show Rg 4)); first | refine Zad ?_ | (refine Zaa tok (by rfl) ?_; conv => whnf) | (refine Zag ?_; conv => whnf) | (refine Zah ?_; conv => whnf) | refine Zaf rfl (fun hb => ?_) (fun hb => ?_)))
 ·have hr : Za6 ⟨fs⟩ = false := by simpa using hb
  skip
  refine ⟨_, rfl, Rel.tup (.cons (Rel.agg (.cons ?_ .nil)) (.cons (Rel.int (by simp [errM, hr])) .nil))⟩
  rw [show Zat ⟨fs⟩ = ⟨fs⟩ from by simp [Zat, hr]]
  exact Rel.row rfl rfl rfl (fun z _ => rfl)
 have hr : Za6 ⟨fs⟩ = true := by simpa using hb
 clear hb
 (repeat' ((fail_if_success (show Rg 5)); first | (refine Zaa tok (by rfl) ?_; conv => whnf) | refine Zaj ?_))
 refine Za3 (fun i : Nat => mkF [(1, .bp (1, 0, 0) 0), (2, .bp (2, 0, 0) 0), (4, .bp (4, 0, 0) 0), (14, iv fs.length), (15, iv i)] [((1, 0, 0), Zam (Zao ⟨fs⟩)), ((2, 0, 0), Zam [.nsl]), ((4, 0, 0), .row false 1 1 (fun _ => [.rs (900, 0, 0) 3 0 fs.length])), ((900, 0, 0), .row true 3 fs.length (fun j => Za1 ((curI ⟨fs⟩ i).getD j default)))] noH) (fun i => i ≤ fs.length) (fun i => fs.length - i) 0 (Nat.zero_le _) ?_ ?_
 ·refine Weak.fam [] rfl (fun i hi => by cases hi) ?_ ?_ noF (fun i hi => by cases hi)
  ·(repeat' first | exact TLg.nil | refine TLg.cons (GV.imm rfl) ?_ | refine TLg.cons (GV.bp rfl rfl) ?_)
   all_goals rfl
  ·refine .old rfl rfl (GB.one (GVs.imm rfl) (fun _ => rfl)) (.old rfl rfl (GB.one (GVs.imm rfl) (fun _ => rfl)) (.old rfl rfl (GB.one (.cons (.rs rfl rfl rfl rfl) .nil) (fun e => by cases e)) (.old rfl rfl (GB.rowI (Nat.le_refl _) (fun q hq => ⟨rfl, ?_⟩)) .nil)))
   rw [curI_zero]
 intro i hi
 (repeat' ((fail_if_success (show Rg 6)); first | refine Zad ?_ | (refine Zaa tok (by rfl) ?_; conv => whnf) | refine Zaj ?_ | (refine Zag ?_; conv => whnf) | (refine Za0 ?_; conv => whnf) | (refine Zah ?_; conv => whnf) | refine Zaf rfl (fun hb => ?_) (fun hb => ?_)))
 ·have hlt : i < fs.length := by simp only [decide_eq_true_eq] at hb; omega
  clear hb
  have hz : 0 + (i : Int).toNat = i := by simp
  (repeat' ((fail_if_success (show Rg 8)); first | (refine Zaa tok (by rfl) ?_; conv => whnf) | (refine Za2 tok mix (by rfl) ?_; conv => whnf)))
  refine .inl ⟨_, _, _, uG (QC.fc (c_iFuncN ⟨fs⟩ i hr hlt) rfl), ?_⟩
  conv => whnf
  ((repeat' first | (refine Zaa tok (by rfl) ?_; conv => whnf) | (refine uA ?_ ?_; rotate_left; (conv => whnf); rotate_right)); all_goals (try ((guard_target = Zac _ _ _ _); refine Zae ?_; (all_goals (try simp only [Zac, kZ, kA, kB, mL, Zab] at *)); all_goals omega)))
  refine ⟨i + 1, hlt, by omega, ?_⟩
  refine Weak.fam [] rfl (fun i hi => by cases hi) ?_ ?_ noF (fun i hi => by cases hi)
  ·(repeat' first | exact TLg.nil | refine TLg.cons (GV.imm rfl) ?_ | refine TLg.cons (GV.bp rfl rfl) ?_ | refine TLg.cons (GV.int ?_) ?_)
   all_goals first | rfl | exact Zal (by omega) (by omega)
  ·refine .old rfl rfl (GB.one (GVs.imm rfl) (fun _ => rfl)) (.old rfl rfl (GB.one (GVs.imm rfl) (fun _ => rfl)) (.old rfl rfl (GB.one (.cons (.rs rfl rfl rfl rfl) .nil) (fun e => by cases e)) (.old rfl rfl (GB.row (Nat.le_refl _) (fun q hq => GVs.upd (fun e => ?_) (fun e => ?_)) (fun _ _ _ => rfl)) .nil)))
   ·rw [hz] at e; subst e
    refine GVs.eqI rfl ?_
    rw [curI_at hq, if_pos (Nat.lt_succ_self q)]; rfl
   ·rw [hz] at e
    refine GVs.eqI rfl ?_
    rw [curI_at hq, curI_at hq]
    by_cases h1 : q < i
    ·rw [if_pos h1, if_pos (by omega)]
    ·rw [if_neg h1, if_neg (by omega)]
 ·have hil : i = fs.length := by simp only [decide_eq_false_iff_not] at hb; omega
  clear hb
  subst hil
  skip
  refine ⟨_, rfl, Rel.tup (.cons (Rel.agg (.cons ?_ .nil)) (.cons (Rel.int (by simp [errM, hr])) .nil))⟩
  rw [← curI_all hr]
  exact Rel.row rfl rfl (curI_len _ _).symm (fun z _ => rfl)
end Go.Proofs.YtoelbgjpmpoolaaGreat
namespace Go.Proofs.YtoelbgjpmpoolaaGreat
open Go Dv
set_option linter.unusedSimpArgs false
def Zfc (x : Ins) (p : Int) : Prop := x.op ≠ 10 ∧ x.op ≠ 12 ∧ x.dst = p
instance (x : Ins) (p : Int) : Decidable (Zfc x p) := by unfold Zfc; infer_instance
def alikeP (x y : Ins) : Prop := x.op = y.op ∧ 3 ≤ x.op ∧ x.op ≤ 8 ∧ ((x.a = y.a ∧ x.b = y.b) ∨ ((x.op = 3 ∨ x.op = 5 ∨ x.op = 7) ∧ x.a = y.b ∧ x.b = y.a))
instance (x y : Ins) : Decidable (alikeP x y) := by unfold alikeP; infer_instance
def keptAt (l : List Ins) (i k : Nat) : Prop := ¬ Zfc (l.getD k default) (l.getD i default).a ∧ ¬ Zfc (l.getD k default) (l.getD i default).b ∧ (i < k → ¬ Zfc (l.getD k default) (l.getD i default).dst)
instance (l : List Ins) (i k : Nat) : Decidable (keptAt l i k) := by unfold keptAt; infer_instance
def keptP (l : List Ins) (i : Nat) : Prop := ∀ k, k < l.length → i ≤ k → keptAt l i k
instance (l : List Ins) (i : Nat) : Decidable (keptP l i) := by unfold keptP; infer_instance
theorem twoO_iff {op : Int} : twoO op = true ↔ 3 ≤ op ∧ op ≤ 8 := by
 unfold twoO; cases h : decide (2 < op) <;> simp at h ⊢ <;> omega
theorem hit_of {x : Ins} {p v : Int} : hit p ((ofD x).l, v) = true ↔ x.a = p ∨ x.b = p ∨ v = p := by
 unfold hit ofD Deed.l
 split <;> simp [or_assoc] <;> omega
theorem mlook_mem {m : Mp} {k : List Int} {v : Int} (h : Zcg m k = some v) : (k, v) ∈ m := by
 induction m with
 | nil => cases h
 | cons q r ih =>
  obtain ⟨a, b⟩ := q
  simp only [Zcg] at h
  split at h
  ·rename_i e; subst e; cases h; simp
  ·exact List.mem_cons_of_mem _ (ih h)
theorem mem_mlook {m : Mp} (hn : (m.map (·.1)).Nodup) {k : List Int} {v : Int} (h : (k, v) ∈ m) : Zcg m k = some v := by
 induction m with
 | nil => cases h
 | cons q r ih =>
  obtain ⟨a, b⟩ := q
  simp only [List.map_cons, List.nodup_cons] at hn
  simp only [Zcg]
  rcases List.mem_cons.1 h with e | e
  ·cases e; simp
  ·split
   ·rename_i e2; subst e2; exact absurd (List.mem_map.2 ⟨_, e, rfl⟩) hn.1
   ·exact ih hn.2 e
theorem mlook_forget {m : Mp} (hn : (m.map (·.1)).Nodup) {p : Int} {k : List Int} {v : Int} : Zcg (Zc7 m p) k = some v ↔ Zcg m k = some v ∧ hit p (k, v) = false := by
 have hn2 : ((Zc7 m p).map (·.1)).Nodup := by
  unfold Zc7
  exact (List.Sublist.map _ List.filter_sublist).nodup hn
 constructor
 ·intro h
  have := mlook_mem h
  unfold Zc7 at this
  rw [List.mem_filter] at this
  exact ⟨mem_mlook hn this.1, by simpa using this.2⟩
 ·rintro ⟨h1, h2⟩
  refine mem_mlook hn2 ?_
  unfold Zc7
  rw [List.mem_filter]
  exact ⟨mlook_mem h1, by simp [h2]⟩
theorem mlook_mput {m : Mp} {k k' : List Int} {v : Int} : Zcg (mput m k v) k' = if k = k' then some v else Zcg m k' := by
 induction m with
 | nil => simp [mput, Zcg]
 | cons q r ih =>
  obtain ⟨a, b⟩ := q
  simp only [mput]
  by_cases e : a = k
  ·subst e
   simp only [if_true, Zcg]
   by_cases e2 : a = k'
   ·simp [e2]
   ·simp [e2]
  ·simp only [if_neg e, Zcg]
   by_cases e2 : a = k'
   ·subst e2; simp; exact fun h => absurd h.symm e
   ·simp only [if_neg e2]; exact ih
theorem mem_mput {m : Mp} {k : List Int} {v : Int} {q : List Int × Int} (h : q ∈ mput m k v) : q = (k, v) ∨ q ∈ m := by
 induction m with
 | nil => simp [mput] at h; exact .inl h
 | cons p r ih =>
  obtain ⟨a, b⟩ := p
  simp only [mput] at h
  split at h
  ·rcases List.mem_cons.1 h with h | h
   ·exact .inl h
   ·exact .inr (List.mem_cons_of_mem _ h)
  ·rcases List.mem_cons.1 h with h | h
   ·exact .inr (h ▸ List.mem_cons_self)
   ·rcases ih h with h | h
    ·exact .inl h
    ·exact .inr (List.mem_cons_of_mem _ h)
theorem mput_keys {m : Mp} {k : List Int} {v : Int} (hn : (m.map (·.1)).Nodup) : ((mput m k v).map (·.1)).Nodup := by
 induction m with
 | nil => simp [mput]
 | cons q r ih =>
  obtain ⟨a, b⟩ := q
  simp only [List.map_cons, List.nodup_cons] at hn
  simp only [mput]
  by_cases e : a = k
  ·subst e; simp only [if_true, List.map_cons, List.nodup_cons]; exact hn
  ·simp only [if_neg e, List.map_cons, List.nodup_cons]
   refine ⟨fun h => ?_, ih hn.2⟩
   rw [List.mem_map] at h
   obtain ⟨⟨c, d⟩, h1, h2⟩ := h
   simp only at h2; subst h2
   rcases mem_mput h1 with h3 | h3
   ·cases h3; exact e rfl
   ·exact hn.1 (List.mem_map.2 ⟨_, h3, rfl⟩)
theorem Zc2 {l : List Ins} {y : Ins} {k : Nat} (h : k < l.length) : (l ++ [y]).getD k default = l.getD k default := by rw [getD_append, if_pos h]
theorem Zeg {l : List Ins} {y : Ins} : (l ++ [y]).getD l.length default = y := by rw [getD_append, if_neg (Nat.lt_irrefl _), Nat.sub_self]; rfl
theorem kept_old {l : List Ins} {y : Ins} {i : Nat} (hi : i < l.length) : keptP (l ++ [y]) i ↔ keptP l i ∧ ¬ Zfc y (l.getD i default).a ∧ ¬ Zfc y (l.getD i default).b ∧ ¬ Zfc y (l.getD i default).dst := by
 constructor
 ·intro h
  refine ⟨fun k hk hik => ?_, ?_⟩
  ·have := h k (by simp; omega) hik
   unfold keptAt at this ⊢
   rw [Zc2 hk, Zc2 hi] at this; exact this
  ·have := h l.length (by simp) (by omega)
   unfold keptAt at this
   rw [Zeg, Zc2 hi] at this
   exact ⟨this.1, this.2.1, this.2.2 hi⟩
 ·rintro ⟨h1, h2, h3, h4⟩ k hk hik
  unfold keptAt
  by_cases e : k < l.length
  ·have := h1 k e hik
   unfold keptAt at this
   rw [Zc2 e, Zc2 hi]; exact this
  ·have : k = l.length := by simp at hk; omega
   subst this
   rw [Zeg, Zc2 hi]; exact ⟨h2, h3, fun _ => h4⟩
theorem kept_new {l : List Ins} {y : Ins} : keptP (l ++ [y]) l.length ↔ ¬ Zfc y y.a ∧ ¬ Zfc y y.b := by
 constructor
 ·intro h
  have := h l.length (by simp) (Nat.le_refl _)
  unfold keptAt at this
  rw [Zeg] at this; exact ⟨this.1, this.2.1⟩
 ·rintro ⟨h1, h2⟩ k hk hik
  have : k = l.length := by simp at hk; omega
  subst this
  unfold keptAt
  rw [Zeg]; exact ⟨h1, h2, fun h => absurd h (Nat.lt_irrefl _)⟩
structure PInv (l : List Ins) (m : Mp) : Prop where
 nd : (m.map (·.1)).Nodup
 fwd : ∀ key v, Zcg m key = some v → ∃ k, k < l.length ∧ keptP l k ∧ twoO (l.getD k default).op = true ∧ (ofD (l.getD k default)).l = key ∧ (l.getD k default).dst = v
 bwd : ∀ k, k < l.length → keptP l k → twoO (l.getD k default).op = true → Zcg m (ofD (l.getD k default)).l = some (l.getD k default).dst
theorem PInv.step {l : List Ins} {m : Mp} (h : PInv l m) (x : Ins) : PInv (l ++ [sameY m x]) (sameM m x) := by
 generalize hy : sameY m x = y
 have hset : ∀ p, Zfc y p ↔ ¬ (y.op = 10 ∨ y.op = 12) ∧ y.dst = p := fun p => by unfold Zfc; omega
 have htwo : twoO y.op = true → y = x ∧ twoO x.op = true ∧ Zcg m (ofD x).l = none := fun ht => by
  unfold sameY at hy
  split at hy
  ·subst hy; simp [twoO] at ht
  ·rename_i hh
   subst hy
   refine ⟨rfl, ht, ?_⟩
   unfold sameHit at hh
   rw [ht] at hh
   cases hm : Zcg m (ofD x).l with
   | none => rfl
   | some v => rw [hm] at hh; simp at hh
 unfold sameM
 rw [hy]
 by_cases h10 : y.op = 10 ∨ y.op = 12
 ·rw [if_pos h10]
  have hno : ∀ p, ¬ Zfc y p := fun p hp => ((hset p).1 hp).1 h10
  refine ⟨h.nd, fun key v hv => ?_, fun k hk hkp ht => ?_⟩
  ·obtain ⟨k, h1, h2, h3, h4, h5⟩ := h.fwd key v hv
   exact ⟨k, by simp; omega, (kept_old h1).2 ⟨h2, hno _, hno _, hno _⟩, by rw [Zc2 h1]; exact h3, by rw [Zc2 h1]; exact h4, by rw [Zc2 h1]; exact h5⟩
  ·by_cases e : k < l.length
   ·rw [Zc2 e] at ht ⊢
    exact h.bwd k e ((kept_old e).1 hkp).1 ht
   ·have : k = l.length := by simp at hk; omega
    subst this
    rw [Zeg, twoO_iff] at ht
    omega
 ·rw [if_neg h10]
  have hset2 : ∀ p, Zfc y p ↔ y.dst = p := fun p => by rw [hset]; exact ⟨fun a => a.2, fun a => ⟨h10, a⟩⟩
  have hnf : ((Zc7 m y.dst).map (·.1)).Nodup := by
   unfold Zc7; exact (List.Sublist.map _ List.filter_sublist).nodup h.nd
  have old1 : ∀ key v, Zcg (Zc7 m y.dst) key = some v → ∃ k, k < (l ++ [y]).length ∧ keptP (l ++ [y]) k ∧ twoO ((l ++ [y]).getD k default).op = true ∧ (ofD ((l ++ [y]).getD k default)).l = key ∧ ((l ++ [y]).getD k default).dst = v := fun key v hv => by
   obtain ⟨h0, hh⟩ := (mlook_forget h.nd).1 hv
   obtain ⟨k, h1, h2, h3, h4, h5⟩ := h.fwd key v h0
   have h6 : ¬ ((l.getD k default).a = y.dst ∨ (l.getD k default).b = y.dst ∨ v = y.dst) := fun e => by
    have := hit_of.2 e
    rw [h4, hh] at this; cases this
   exact ⟨k, by simp; omega, (kept_old h1).2 ⟨h2, fun e => h6 (.inl ((hset2 _).1 e).symm), fun e => h6 (.inr (.inl ((hset2 _).1 e).symm)), fun e => h6 (.inr (.inr (by rw [← h5]; exact ((hset2 _).1 e).symm)))⟩, by rw [Zc2 h1]; exact h3, by rw [Zc2 h1]; exact h4, by rw [Zc2 h1]; exact h5⟩
  have old2 : ∀ k, k < l.length → keptP (l ++ [y]) k → twoO (l.getD k default).op = true → Zcg m (ofD (l.getD k default)).l = some (l.getD k default).dst ∧ Zcg (Zc7 m y.dst) (ofD (l.getD k default)).l = some (l.getD k default).dst := fun k e hkp ht => by
   obtain ⟨h1, h2, h3, h4⟩ := (kept_old e).1 hkp
   have h5 := h.bwd k e h1 ht
   refine ⟨h5, (mlook_forget h.nd).2 ⟨h5, ?_⟩⟩
   rw [Bool.eq_false_iff]
   intro hh
   rw [hset2] at h2 h3 h4
   rcases hit_of.1 hh with e1 | e1 | e1
   ·exact h2 e1.symm
   ·exact h3 e1.symm
   ·exact h4 e1.symm
  by_cases hput : sameOk m x = true ∧ y.dst ≠ (ofD x).a ∧ y.dst ≠ (ofD x).b
  ·rw [if_pos hput]
   obtain ⟨hok, hna, hnb⟩ := hput
   unfold sameOk at hok
   rw [Bool.and_eq_true] at hok
   have hnone : Zcg m (ofD x).l = none := by
    cases hm : Zcg m (ofD x).l with
    | none => rfl
    | some v => rw [hm] at hok; simp at hok
   have hyx : y = x := by
    unfold sameY sameHit at hy
    rw [hok.1, hnone] at hy; simpa using hy.symm
   subst hyx
   have hab : y.dst ≠ y.a ∧ y.dst ≠ y.b := by
    unfold ofD at hna hnb
    split at hna <;> simp_all
   refine ⟨mput_keys hnf, fun key v hv => ?_, fun k hk hkp ht => ?_⟩
   ·rw [mlook_mput] at hv
    split at hv
    ·rename_i e
     cases hv
     exact ⟨l.length, by simp, kept_new.2 ⟨fun e => hab.1 ((hset2 _).1 e), fun e => hab.2 ((hset2 _).1 e)⟩, by rw [Zeg]; exact hok.1, by rw [Zeg]; exact e, by rw [Zeg]⟩
    ·exact old1 key v hv
   ·by_cases e : k < l.length
    ·rw [Zc2 e] at ht ⊢
     obtain ⟨a1, a2⟩ := old2 k e hkp ht
     rw [mlook_mput, if_neg (fun e2 => by rw [← e2, hnone] at a1; cases a1)]
     exact a2
    ·have : k = l.length := by simp at hk; omega
     subst this
     rw [Zeg, mlook_mput, if_pos rfl]
  ·rw [if_neg hput]
   refine ⟨hnf, old1, fun k hk hkp ht => ?_⟩
   by_cases e : k < l.length
   ·rw [Zc2 e] at ht ⊢
    exact (old2 k e hkp ht).2
   ·exfalso
    have : k = l.length := by simp at hk; omega
    subst this
    rw [Zeg] at ht
    obtain ⟨rfl, h1, h2⟩ := htwo ht
    obtain ⟨h3, h4⟩ := kept_new.1 hkp
    rw [hset2] at h3 h4
    refine hput ⟨by unfold sameOk; rw [h1, h2]; rfl, ?_, ?_⟩
    ·unfold ofD; split <;> simp <;> first | exact h4 | exact h3
    ·unfold ofD; split <;> simp <;> first | exact h3 | exact h4
theorem PInv.nil : PInv [] [] := ⟨List.nodup_nil, (fun _ _ h => by cases h), (fun k hk => by simp at hk)⟩
end Go.Proofs.YtoelbgjpmpoolaaGreat
namespace Go.Proofs.YtoelbgjpmpoolaaGreat
open Go Dv
set_option maxRecDepth 10000
set_option linter.unusedSimpArgs false
end Go.Proofs.YtoelbgjpmpoolaaGreat
namespace Go.Proofs.YtoelbgjpmpoolaaGreat
open Go Dv
set_option maxRecDepth 10000
set_option linter.unusedSimpArgs false
def aheadN (l : List Ins) (p : Int) : Nat → Int × Bool
 | 0 => (0, false)
 | k + 1 => if Zfc (l.getD k default) p then ((l.getD k default).k, decide ((l.getD k default).op = 1)) else aheadN l p k
def aheadL (l : List Ins) (p : Int) : Int × Bool := aheadN l p l.length
theorem aheadN_old {l : List Ins} {y : Ins} {p : Int} : ∀ {k : Nat}, k ≤ l.length → aheadN (l ++ [y]) p k = aheadN l p k
 | 0, _ => rfl
 | k + 1, h => by
   simp only [aheadN]
   rw [Zc2 (by omega), aheadN_old (by omega)]
theorem aheadL_snoc (l : List Ins) (y : Ins) (p : Int) : aheadL (l ++ [y]) p = if Zfc y p then (y.k, decide (y.op = 1)) else aheadL l p := by
 unfold aheadL
 rw [show (l ++ [y]).length = l.length + 1 from by simp]
 simp only [aheadN]
 rw [Zeg, aheadN_old (Nat.le_refl _)]
structure KInv (l : List Ins) (m : List (List Int × Int)) : Prop where
 nd : (m.map (·.1)).Nodup
 eq : ∀ p v, Zcg m [p] = some v ↔ aheadL l p = (v, true)
theorem KInv.nil : KInv [] [] := ⟨List.nodup_nil, fun p v => by simp [Zcg, aheadL, aheadN]⟩
theorem KInv.none {l : List Ins} {m : List (List Int × Int)} (h : KInv l m) (p : Int) : Zcg m [p] = none ↔ (aheadL l p).2 = false := by
 cases hm : Zcg m [p] with
 | none =>
  cases hq : aheadL l p with
  | mk v b =>
   cases b with
   | false => simp
   | true => have := (h.eq p v).2 hq; rw [hm] at this; cases this
 | some v => have := (h.eq p v).1 hm; rw [this]; simp
theorem mdel_keys {m : List (List Int × Int)} {k : List Int} (hn : (m.map (·.1)).Nodup) : ((mdel m k).map (·.1)).Nodup := by
 rw [Zfk k hn]
 exact (List.Sublist.map _ List.filter_sublist).nodup hn
theorem mlook_mdel {m : List (List Int × Int)} (hn : (m.map (·.1)).Nodup) {k k' : List Int} {v : Int} : Zcg (mdel m k) k' = some v ↔ k' ≠ k ∧ Zcg m k' = some v := by
 have hn2 := mdel_keys (k := k) hn
 constructor
 ·intro h
  have := mlook_mem h
  rw [Zfk k hn, List.mem_filter] at this
  exact ⟨by simpa using this.2, mem_mlook hn this.1⟩
 ·rintro ⟨h1, h2⟩
  refine mem_mlook hn2 ?_
  rw [Zfk k hn, List.mem_filter]
  exact ⟨mlook_mem h2, by simpa using h1⟩
theorem KInv.step {l : List Ins} {m : List (List Int × Int)} (h : KInv l m) (y : Ins) : KInv (l ++ [y]) (noteW m y) := by
 unfold noteW
 by_cases h1 : y.op = 10 ∨ y.op = 12
 ·rw [if_pos h1]
  refine ⟨h.nd, fun p v => ?_⟩
  rw [aheadL_snoc, if_neg (fun e => by unfold Zfc at e; omega)]
  exact h.eq p v
 ·rw [if_neg h1]
  have hs : ∀ p, Zfc y p ↔ y.dst = p := fun p => by unfold Zfc; omega
  by_cases h2 : y.op = 1
  ·rw [if_pos h2]
   refine ⟨mput_keys h.nd, fun p v => ?_⟩
   rw [mlook_mput, aheadL_snoc]
   by_cases h3 : y.dst = p
   ·rw [if_pos (by rw [h3]), if_pos ((hs p).2 h3)]; simp [h2]
   ·rw [if_neg (fun e => h3 (by simpa using e)), if_neg (fun e => h3 ((hs p).1 e))]
    exact h.eq p v
  ·rw [if_neg h2]
   refine ⟨mdel_keys h.nd, fun p v => ?_⟩
   rw [mlook_mdel h.nd, aheadL_snoc]
   by_cases h3 : y.dst = p
   ·rw [if_pos ((hs p).2 h3)]; simp [h2, h3]
   ·rw [if_neg (fun e => h3 ((hs p).1 e))]
    constructor
    ·rintro ⟨_, h4⟩; exact (h.eq p v).1 h4
    ·intro h4; exact ⟨fun e => h3 (by simpa using e.symm), (h.eq p v).2 h4⟩
set_option linter.unusedSimpArgs false
theorem u64w {x : Int} (h : 0 ≤ x) (h2 : x < 18446744073709551616) : IntKind.u64.wrap x = x := by
 rw [IntKind.wrap_u64]; omega
theorem u16w (x : Int) : IntKind.u16.wrap x = x % 65536 := by
 unfold IntKind.wrap; simp [IntKind.bits, IntKind.signed]
theorem c_rDo (op a b : Int) : FC Tryz.prog 192 [iv op, .int .u16 a, .int .u16 b] (.tup [.int .u16 (doW op a b).1, .bool (doW op a b).2]) := by
 refine Zan tok Tryz.func192 rfl (by decide +kernel) (nB rfl) ?_
 refine Zap 1 (fun h1 => ?_)
 refine Zap 2 (fun h2 => ?_)
 have ha : 0 ≤ a ∧ a ≤ 65535 := h1
 have hb2 : 0 ≤ b ∧ b ≤ 65535 := h2
 clear h1 h2
 have ea : IntKind.u64.wrap a = a := u64w ha.1 (by omega)
 have eb : IntKind.u64.wrap b = b := u64w hb2.1 (by omega)
 have modw : ∀ x : Int, 0 ≤ x → x < 18446744073709551616 → IntKind.u16.wrap (IntKind.u64.wrap ((IntKind.u64.wrap x).tmod 65536)) = w16 x := fun x h1 h2 => by
  rw [u64w h1 h2, Int.tmod_eq_emod_of_nonneg h1, u64w (by omega) (by omega), w16, u16w, u16w]; omega
 have m3 : IntKind.u16.wrap (IntKind.u64.wrap ((IntKind.u64.wrap (IntKind.u64.wrap a + IntKind.u64.wrap b)).tmod 65536)) = w16 (a + b) := by
  rw [ea, eb]; exact modw _ (by omega) (by omega)
 have m4 : IntKind.u16.wrap (IntKind.u64.wrap ((IntKind.u64.wrap (IntKind.u64.wrap (IntKind.u64.wrap a + 65536) - IntKind.u64.wrap b)).tmod 65536)) = w16 (a - b) := by
  rw [ea, eb, u64w (x := a + 65536) (by omega) (by omega), modw _ (by omega) (by omega), w16, w16, u16w, u16w]; omega
 have hm1 : 0 ≤ a * b := Int.mul_nonneg ha.1 hb2.1
 have hm2 : a * b ≤ 65535 * 65535 := Int.mul_le_mul ha.2 hb2.2 hb2.1 (by omega)
 have m5 : IntKind.u16.wrap (IntKind.u64.wrap ((IntKind.u64.wrap (IntKind.u64.wrap a * IntKind.u64.wrap b)).tmod 65536)) = w16 (a * b) := by
  rw [ea, eb]; exact modw _ hm1 (by omega)
 have hd0 : 0 ≤ a.tdiv b := Int.tdiv_nonneg ha.1 hb2.1
 have hd1 : a.tdiv b ≤ a := Int.tdiv_le_self _ ha.1
 have m6 : IntKind.u16.wrap (IntKind.u64.wrap ((IntKind.u64.wrap a).tdiv (IntKind.u64.wrap b))) = w16 (a.tdiv b) := by
  rw [ea, eb, u64w hd0 (by omega)]; rfl
 ((repeat' first | refine Zad ?_ | (refine Zaa tok (by rfl) ?_; conv => whnf) | (refine Zag ?_; conv => whnf) | (refine Zah ?_; conv => whnf) | refine Zaf rfl (fun hb => ?_) (fun hb => ?_) | (refine uA ?_ ?_; rotate_left; (conv => whnf); rotate_right)); all_goals (try ((guard_target = Zac _ _ _ _); refine Zae ?_; (all_goals (try simp only [Zac, kZ, kA, kB, mL, Zab] at *)); all_goals omega)))
 all_goals refine ⟨_, rfl, Rel.tup (.cons (Rel.int ?_) (.cons (Rel.bool ?_) .nil))⟩
 all_goals simp only [decide_eq_true_eq, decide_eq_false_iff_not] at *
 all_goals first
  | (simp only [m3, m4, m5, m6]; simp [doW, *]; done)
  | (simp [doW, *]; done)
  | skip
 all_goals (rw [ea, eb] at *)
 all_goals (try rw [m6])
 all_goals clear m3 m4 m5 m6 hm1 hm2 hd0 hd1 modw ea eb
 all_goals (simp only [cond_eq_ite] at *; unfold doW; grind)
end Go.Proofs.YtoelbgjpmpoolaaGreat
namespace Go.Proofs.YtoelbgjpmpoolaaGreat
open Go Dv
set_option maxRecDepth 10000
set_option linter.unusedSimpArgs false
structure Za5 where
 (f block at_ : Int)
 regs : List Int
 fly : Int
deriving Inhabited
def Zay (x : Za5) : List AV := [iv x.f, iv x.block, iv x.at_, u16s x.regs, .int .u16 x.fly]
def frW (f : Za5) (n w : Int) : Za5 := { f with regs := f.regs.set n.toNat w }
theorem updF_hit {f : Nat → List AV} {k : Nat} {c : List AV} : updR f k c k = c := by unfold updR; rw [show Nat.beq k k = true by simp]; rfl
theorem updF_miss {f : Nat → List AV} {k i : Nat} {c : List AV} (h : k ≠ i) : updR f k c i = f i := by
 unfold updR; rw [show Nat.beq k i = false from by rw [Bool.eq_false_iff]; intro e; exact h (Nat.eq_of_beq_eq_true e)]; rfl
theorem rowSet {l : List Int} {K : Nat} {w : Int} {z : Nat} (hK : K < l.length) : updR (fun q => [.int .u16 (l.getD q 0)]) K [.int .u16 w] z = [.int .u16 ((l.set K w).getD z 0)] := by
 rw [Zcm]
 by_cases e : K = z
 ·subst e; rw [if_pos ⟨rfl, hK⟩]; exact updF_hit
 ·rw [if_neg (fun h => e h.1)]; exact updF_miss e
theorem c_With (f : Za5) (n w : Int) (h0 : 0 ≤ n) (h1 : n < f.regs.length) : FC Tryz.prog 151 [.agg (Zay f), iv n, .int .u16 w] (.agg (Zay (frW f n w))) := by
 refine Zan tok Tryz.func151 rfl (by decide +kernel) (nB rfl) ?_
 refine Zap 0 (fun hl => ?_)
 have hl0 : f.regs.length ≤ mL := hl.2.2.2.1.1
 have hmx : mL = 4294967296 := rfl
 clear hl
 ((repeat' first | refine Zad ?_ | (refine Zaa tok (by rfl) ?_; conv => whnf) | (refine Zah ?_; conv => whnf) | (refine uA ?_ ?_; rotate_left; (conv => whnf); rotate_right)); all_goals (try ((guard_target = Zac _ _ _ _); refine Zae ?_; (first | refine And.intro Zcx ?_ | skip); (all_goals (try simp only [Zac, kZ, kA, kB, mL, Zab] at *)); all_goals omega)))
 have hz : n.toNat < f.regs.length := by omega
 have hlen : (frW f n w).regs.length = f.regs.length := by simp [frW]
 refine ⟨_, rfl, Rel.agg (.cons (Rel.imm rfl) (.cons (Rel.imm rfl) (.cons (Rel.imm rfl) (.cons (Rel.row rfl ?_ ?_ (fun z _ => ?_)) (.cons (Rel.imm rfl) .nil)))))⟩
 ·rfl
 ·rw [hlen, Nat.zero_add]
 ·rw [Nat.zero_add]
  exact rowSet (l := f.regs) hz
def thereB (f : Za5) (n : Int) : Bool := decide (0 ≤ n ∧ n < f.regs.length)
theorem c_there (f : Za5) (n : Int) : FC Tryz.prog 191 [.agg (Zay f), iv n] (.bool (thereB f n)) := by
 refine Zan tok Tryz.func191 rfl (by decide +kernel) (nB rfl) ?_
 (repeat' first | refine Zad ?_ | (refine Zaa tok (by rfl) ?_; conv => whnf) | (refine Zah ?_; conv => whnf))
 refine ⟨_, rfl, Rel.bool ?_⟩
 unfold thereB
 by_cases e1 : 0 ≤ n <;> by_cases e2 : n < (f.regs.length : Int) <;> simp [e1, e2]
def catchF (p : Pad) (w : Int) : Bool := decide (w ∈ p.catch_) || p.all
theorem c_Catches (p : Pad) (w : Int) : FC Tryz.prog 193 [.agg (Zc1 p), .int .u16 w] (.bool (catchF p w)) := by
 refine Zan tok Tryz.func193 rfl (by decide +kernel) (nB rfl) ?_
 refine Zap 0 (fun hl => ?_)
 have hl0 : p.catch_.length ≤ mL := hl.2.1.1
 have hmx : mL = 4294967296 := rfl
 clear hl
 (repeat' ((fail_if_success (show Rg 2)); first | refine Zad ?_ | (refine Zaa tok (by rfl) ?_; conv => whnf) | refine Zaj ?_))
 refine Za3 (fun i : Nat => mkS [(1, .int .u16 w), (2, .bp (2, 0, 0) 0), (5, iv i)] [((2, 0, 0), .row true 4 1 (fun _ => Zc1 p))]) (fun i => i ≤ p.catch_.length ∧ ∀ j, j < i → p.catch_.getD j 0 ≠ w) (fun i => p.catch_.length - i) 0 ⟨Nat.zero_le _, fun j h => absurd h (Nat.not_lt_zero j)⟩ ?_ ?_
 ·refine Weak.list [((2, 0, 0), .old (2, 0, 0), .row true 4 1 (fun _ => Zc1 p))] rfl (by rfl) ?_ (.old rfl (BLe.rowW (Nat.le_refl _) (ltS (Wks.of rfl) lt0)) .nil)
  ((repeat' first | exact TLes.nil | refine tE rfl ?_); skip)
 rintro i ⟨hi, hn⟩
 (repeat' ((fail_if_success (show Rg 4)); first | refine Zad ?_ | (refine Zaa tok (by rfl) ?_; conv => whnf) | refine Zaj ?_ | (refine Zag ?_; conv => whnf) | (refine Za0 ?_; conv => whnf) | (refine Zah ?_; conv => whnf) | refine Zaf rfl (fun hb => ?_) (fun hb => ?_)))
 ·have hlt : i < p.catch_.length := by simp only [decide_eq_true_eq] at hb; omega
  clear hb
  have hz : (i : Int).toNat = i := by simp
  ((repeat' first | refine Zad ?_ | (refine Zaa tok (by rfl) ?_; conv => whnf) | (refine Zag ?_; conv => whnf) | (refine Zah ?_; conv => whnf) | refine Zaf rfl (fun hb => ?_) (fun hb => ?_) | (refine uA ?_ ?_; rotate_left; (conv => whnf); rotate_right)); all_goals (try ((guard_target = Zac _ _ _ _); refine Zae ?_; (all_goals (try simp only [Zac, kZ, kA, kB, mL, Zab] at *)); all_goals omega)))
  ·have e : p.catch_.getD i 0 = w := by rw [hz] at hb; simpa using hb
   refine ⟨_, rfl, Rel.bool ?_⟩
   unfold catchF
   have : w ∈ p.catch_ := by rw [← e, Zbl 0 hlt]; exact List.getElem_mem _
   simp [this]
  ·have e : p.catch_.getD i 0 ≠ w := by rw [hz] at hb; simpa using hb
   refine ⟨i + 1, ⟨hlt, fun j hj => ?_⟩, by omega, ?_⟩
   ·by_cases h : j = i
    ·rw [h]; exact e
    ·exact hn j (by omega)
   refine Weak.list [((2, 0, 0), .old (2, 0, 0), .row true 4 1 (fun _ => Zc1 p))] rfl (by rfl) ?_ (.old rfl (BLe.refl _) .nil)
   ((repeat' first | exact TLes.nil | refine tE rfl ?_ | refine TLes.cons (TLe.int ?_) ?_); (all_goals first | ((try (simp only [Zac, kZ, kA, kB, mL, Zab] at *)); exact Zal (by omega) (by omega)) | skip))
 ·have hil : i = p.catch_.length := by simp only [decide_eq_false_iff_not] at hb; omega
  clear hb
  subst hil
  skip
  refine ⟨_, rfl, Rel.bool ?_⟩
  unfold catchF
  have : ¬ w ∈ p.catch_ := fun h => by
   obtain ⟨j, hj, e⟩ := List.getElem_of_mem h
   exact hn j hj (by rw [Zbl 0 hj]; exact e)
  simp [this]
def reckV (f : Za5) (x : Ins) : Int × Bool := if x.op = 1 then (x.k, true) else doW x.op (f.regs.getD x.a.toNat 0) (if 2 < x.op then f.regs.getD x.b.toNat 0 else 0)
def reckR (f : Za5) (x : Ins) : Za5 × Bool := if (reckV f x).2 = true then ({ frW f x.dst (reckV f x).1 with at_ := f.at_ + 1 }, true) else (f, false)
set_option maxHeartbeats 1000000 in
theorem c_Reckon (f : Za5) (x : Ins) (hat0 : 0 ≤ f.at_) (hat : f.at_ < 1000000) (h1 : 1 ≤ x.op) (h8 : x.op ≤ 8) (hd : 0 ≤ x.dst ∧ x.dst < f.regs.length) (ha : 1 < x.op → 0 ≤ x.a ∧ x.a < f.regs.length) (hb' : 2 < x.op → 0 ≤ x.b ∧ x.b < f.regs.length) :
  FC Tryz.prog 149 [.agg (Zay f), .agg (Zax x)] (.tup [.agg (Zay (reckR f x).1), .bool (reckR f x).2]) := by
 refine Zan tok Tryz.func149 rfl (by decide +kernel) (nB rfl) ?_
 refine Zap 0 (fun hl => ?_)
 have hl0 : f.regs.length ≤ mL := hl.2.2.2.1.1
 have hmx : mL = 4294967296 := rfl
 clear hl
 have hT : ∀ n, (0 ≤ n ∧ n < (f.regs.length : Int)) → FC Tryz.prog 191 [.agg (Zay f), iv n] (.bool true) := fun n h => by
  have := c_there f n
  rw [show thereB f n = true from decide_eq_true h] at this; exact this
 have hW : ∀ w, FC Tryz.prog 151 [.agg (Zay f), iv x.dst, .int .u16 w] (.agg (Zay (frW f x.dst w))) := fun w => c_With f x.dst w hd.1 hd.2
 by_cases h2 : 1 < x.op
 ·have ha2 := ha h2
  have hav : (f.regs.getD x.a.toNat 0) = f.regs.getD (0 + x.a.toNat) 0 := by rw [Nat.zero_add]
  (repeat' first | refine Zad ?_ | (refine Zaa tok (by rfl) ?_; conv => whnf))
  refine .inl ⟨_, _, _, uG (QC.fc (hT _ hd) rfl), ?_⟩
  conv => whnf
  (repeat' first | refine Zad ?_ | (refine Zaa tok (by rfl) ?_; conv => whnf) | (refine Zag ?_; conv => whnf) | (refine Zah ?_; conv => whnf) | refine Zaf rfl (fun hb => ?_) (fun hb => ?_))
  ·exfalso; simp at hb; omega
  clear hb
  ·refine .inl ⟨_, _, _, uG (QC.fc (hT _ ha2) rfl), ?_⟩
   conv => whnf
   have hB : 2 < x.op → thereB f x.b = true := fun h => decide_eq_true (hb' h)
   skip
   refine .inl ⟨_, _, _, uG (QC.fc (c_there f x.b) rfl), ?_⟩
   conv => whnf
   ((repeat' first | refine Zad ?_ | (refine Zaa tok (by rfl) ?_; conv => whnf) | (refine Za2 tok mix (by rfl) ?_; conv => whnf) | (refine Zag ?_; conv => whnf) | (refine Zah ?_; conv => whnf) | refine Zaf rfl (fun hb => ?_) (fun hb => ?_) | (refine uA ?_ ?_; rotate_left; (conv => whnf); rotate_right)); all_goals (try ((guard_target = Zac _ _ _ _); refine Zae ?_; (all_goals (try simp only [Zac, kZ, kA, kB, mL, Zab] at *)); all_goals omega)))
   ·exfalso
    rw [Bool.not_true, cond_false] at hb
    by_cases h3 : 2 < x.op
    ·rw [hB h3, decide_eq_true h3] at hb; cases hb
    ·rw [decide_eq_false h3] at hb; cases hb
   ·have h3 : 2 < x.op := by simpa using hb
    have hV : reckV f x = doW x.op (f.regs.getD x.a.toNat 0) (f.regs.getD x.b.toNat 0) := by
     unfold reckV; rw [if_neg (by omega), if_pos h3]
    clear hb
    refine .inl ⟨_, _, _, uG (QC.fc (c_rDo x.op (f.regs.getD x.a.toNat 0) (f.regs.getD x.b.toNat 0)) rfl), ?_⟩
    conv => whnf
    rw [← hV]
    (repeat' first | refine Zad ?_ | (refine Zaa tok (by rfl) ?_; conv => whnf) | (refine Zag ?_; conv => whnf) | (refine Zah ?_; conv => whnf) | refine Zaf rfl (fun hb => ?_) (fun hb => ?_))
    ·have hv : reckR f x = (f, false) := if_neg (by simpa using hb)
     rw [hv]
     exact ⟨_, rfl, Rel.tup (.cons (Rel.agg (Rels.imm rfl)) (.cons (Rel.bool rfl) .nil))⟩
    ·have hv : reckR f x = ({ frW f x.dst (reckV f x).1 with at_ := f.at_ + 1 }, true) := if_pos (by simpa using hb)
     refine .inl ⟨_, _, _, uG (QC.fc (hW _) rfl), ?_⟩
     conv => whnf
     (repeat' first | refine Zad ?_ | (refine Zaa tok (by rfl) ?_; conv => whnf) | (refine Zah ?_; conv => whnf))
     rw [hv]
     refine ⟨_, rfl, Rel.tup (.cons (Rel.agg (.cons (Rel.imm rfl) (.cons (Rel.imm rfl) (.cons (Rel.int (show IntKind.i64.wrap (f.at_ + 1) = f.at_ + 1 from Zal (by omega) (by omega))) (.cons (Rel.imm rfl) (.cons (Rel.imm rfl) .nil)))))) (.cons (Rel.bool rfl) .nil))⟩
   ·have h3 : ¬ 2 < x.op := by simpa using hb
    have hV : reckV f x = doW x.op (f.regs.getD x.a.toNat 0) 0 := by
     unfold reckV; rw [if_neg (by omega), if_neg h3]
    clear hb
    refine .inl ⟨_, _, _, uG (QC.fc (c_rDo x.op (f.regs.getD x.a.toNat 0) 0) rfl), ?_⟩
    conv => whnf
    rw [← hV]
    (repeat' first | refine Zad ?_ | (refine Zaa tok (by rfl) ?_; conv => whnf) | (refine Zag ?_; conv => whnf) | (refine Zah ?_; conv => whnf) | refine Zaf rfl (fun hb => ?_) (fun hb => ?_))
    ·have hv : reckR f x = (f, false) := if_neg (by simpa using hb)
     rw [hv]
     exact ⟨_, rfl, Rel.tup (.cons (Rel.agg (Rels.imm rfl)) (.cons (Rel.bool rfl) .nil))⟩
    ·have hv : reckR f x = ({ frW f x.dst (reckV f x).1 with at_ := f.at_ + 1 }, true) := if_pos (by simpa using hb)
     refine .inl ⟨_, _, _, uG (QC.fc (hW _) rfl), ?_⟩
     conv => whnf
     (repeat' first | refine Zad ?_ | (refine Zaa tok (by rfl) ?_; conv => whnf) | (refine Zah ?_; conv => whnf))
     rw [hv]
     refine ⟨_, rfl, Rel.tup (.cons (Rel.agg (.cons (Rel.imm rfl) (.cons (Rel.imm rfl) (.cons (Rel.int (show IntKind.i64.wrap (f.at_ + 1) = f.at_ + 1 from Zal (by omega) (by omega))) (.cons (Rel.imm rfl) (.cons (Rel.imm rfl) .nil)))))) (.cons (Rel.bool rfl) .nil))⟩
  ·exfalso; simp at hb; omega
 ·have h2' : x.op = 1 := by omega
  have hV : reckV f x = (x.k, true) := if_pos h2'
  have hv : reckR f x = ({ frW f x.dst (reckV f x).1 with at_ := f.at_ + 1 }, true) := if_pos (by rw [hV])
  rw [hV] at hv
  (repeat' first | refine Zad ?_ | (refine Zaa tok (by rfl) ?_; conv => whnf))
  refine .inl ⟨_, _, _, uG (QC.fc (hT _ hd) rfl), ?_⟩
  conv => whnf
  (repeat' first | refine Zad ?_ | (refine Zaa tok (by rfl) ?_; conv => whnf) | (refine Zag ?_; conv => whnf) | (refine Zah ?_; conv => whnf) | refine Zaf rfl (fun hb => ?_) (fun hb => ?_))
  ·exfalso; simp at hb; omega
  ·exfalso; simp at hb; omega
  ·refine .inl ⟨_, _, _, uG (QC.fc (hW _) rfl), ?_⟩
   conv => whnf
   (repeat' first | refine Zad ?_ | (refine Zaa tok (by rfl) ?_; conv => whnf) | (refine Zah ?_; conv => whnf))
   rw [hv]
   refine ⟨_, rfl, Rel.tup (.cons (Rel.agg (.cons (Rel.imm rfl) (.cons (Rel.imm rfl) (.cons (Rel.int (show IntKind.i64.wrap (f.at_ + 1) = f.at_ + 1 from Zal (by omega) (by omega))) (.cons (Rel.imm rfl) (.cons (Rel.imm rfl) .nil)))))) (.cons (Rel.bool rfl) .nil))⟩
end Go.Proofs.YtoelbgjpmpoolaaGreat
namespace Go.Proofs.YtoelbgjpmpoolaaGreat
open Go Dv
set_option maxRecDepth 10000
set_option linter.unusedSimpArgs false
def regN (args : List Int) (q : Nat) : Int := if q < args.length then args.getD q 0 else 0
def frN (m : Zak) (n : Int) (args : List Int) : Za5 := ⟨n, 0, 0, (List.range (m.funcs.getD n.toNat default).regs.toNat).map (regN args), 0⟩
theorem appF {k z : Nat} {g : Nat → Int} {v : Int} (hz : z < k + 1) (hv : v = g k) : appR k (fun q => [.int .u16 (g q)]) (fun i => Zfd 1 [.int .u16 v] (0 + i)) z = [.int .u16 (g z)] := by
 unfold appR
 by_cases e : z < k
 ·rw [show Nat.blt z k = true from by rw [Nat.blt_eq]; exact e]; rfl
 ·have e2 : z = k := by omega
  subst e2
  rw [show Nat.blt z z = false from by rw [Bool.eq_false_iff]; intro h; rw [Nat.blt_eq] at h; omega, Nat.sub_self, hv]; rfl
set_option maxHeartbeats 1000000 in
theorem c_frNew (m : Zak) (n : Int) (args : List Int) (h0 : 0 ≤ n) (h1 : n < m.funcs.length) (hp : (args.length : Int) = (m.funcs.getD n.toNat default).params) (hR : (m.funcs.getD n.toNat default).regs ≤ 256) :
  FC Tryz.prog 104 [.agg (Zao m), iv n, u16s args] (.tup [.agg (Zay (frN m n args)), iv 0]) := by
 refine Zan tok Tryz.func104 rfl (by decide +kernel) (nB rfl) ?_
 have hmx : mL = 4294967296 := rfl
 have hgen : ∃ R, (m.funcs.getD n.toNat default).regs = R := ⟨_, rfl⟩
 obtain ⟨R, hRe⟩ := hgen
 have hfr : frN m n args = ⟨n, 0, 0, (List.range R.toNat).map (regN args), 0⟩ := by unfold frN; rw [hRe]
 rw [hRe] at hR
 ((repeat' ((fail_if_success (show Rg 5)); first | refine Zad ?_ | (refine Zaa tok (by rfl) ?_; conv => whnf) | refine Zaj ?_ | (refine Zag ?_; conv => whnf) | (refine Zah ?_; conv => whnf) | refine Zaf rfl (fun hb => ?_) (fun hb => ?_) | (refine uA ?_ ?_; rotate_left; (conv => whnf); rotate_right))); all_goals (try ((guard_target = Zac _ _ _ _); ((refine Za7 ?_; intro hgd; (conv at hgd => whnf))); (all_goals (try simp only [Zac, kZ, kA, kB, mL, Zab] at *)); all_goals omega)))
 ·exfalso
  rw [decide_eq_false (show ¬ n < 0 by omega), decide_eq_false (show ¬ (m.funcs.length : Int) ≤ n by omega), decide_eq_true hp] at hb
  cases hb
 clear hb
 refine Za3 (fun i : Nat => mkS [(1, iv n), (2, u16s args), (3, .bp (3, 0, 0) 0), (6, .bp (6, 0, 0) 0), (8, .bp (8, 0, 0) 0), (9, iv i)] [((3, 0, 0), Zam (Zao m)), ((6, 0, 0), Zam [iv 0, iv 0, iv 0, .nsl, .int .u16 0]), ((8, 0, 0), .row false 5 1 (fun _ => [iv n, iv 0, iv 0, .rs (101, 0, 0) 1 0 i, .int .u16 0])), ((101, 0, 0), .row true 1 i (fun q => [.int .u16 (regN args q)]))]) (fun i => i ≤ R.toNat) (fun i => R.toNat - i) 0 (Nat.zero_le _) ?_ ?_
 ·refine Weak.list [((3, 0, 0), .old (3, 0, 0), Zam (Zao m)), ((6, 0, 0), .old (6, 0, 0), Zam [iv 0, iv 0, iv 0, .nsl, .int .u16 0]), ((8, 0, 0), .old (8, 0, 0), .row false 5 1 (fun _ => [iv n, iv 0, iv 0, .rs (101, 0, 0) 1 0 0, .int .u16 0])), ((101, 0, 0), .nil, .row true 1 0 (fun q => [.int .u16 (regN args q)]))] rfl (by rfl) ?_ (.old rfl (BLe.refl _) (.old rfl (BLe.refl _) (.oldR rfl (BLeR.cells rfl (ltS (.cons .eq (.cons .eq (.cons .eq (.cons (.nil rfl) (.cons .eq .nil))))) lt0)) (.new .nil))))
  ((repeat' first | exact TLes.nil | refine tE rfl ?_); skip)
 intro i hi
 ((repeat' ((fail_if_success (show Rg 7)); first | refine Zad ?_ | (refine Zaa tok (by rfl) ?_; conv => whnf) | refine Zaj ?_ | (refine Zag ?_; conv => whnf) | (refine Za0 ?_; conv => whnf) | (refine Zah ?_; conv => whnf) | refine Zaf rfl (fun hb => ?_) (fun hb => ?_) | (refine uA ?_ ?_; rotate_left; (conv => whnf); rotate_right))); all_goals (try ((guard_target = Zac _ _ _ _); refine Zae ?_; (all_goals (try simp only [Zac, kZ, kA, kB, mL, Zab] at *)); all_goals omega)))
 ·have hlt : i < R.toNat := by rw [hRe] at hb; simp only [decide_eq_true_eq] at hb; omega
  clear hb
  have hiz : (i : Int).toNat = i := by simp
  ((repeat' first | (refine Zaa tok (by rfl) ?_; conv => whnf) | (refine Za2 tok mix (by rfl) ?_; conv => whnf) | refine Zaf rfl (fun hb => ?_) (fun hb => ?_) | (refine uA ?_ ?_; rotate_left; (conv => whnf); rotate_right)); all_goals (try ((guard_target = Zac _ _ _ _); refine Zae ?_; (first | refine And.intro (Zcy rfl ?_) ?_ | skip); (all_goals (try simp only [Zac, kZ, kA, kB, mL, Zab] at *)); all_goals omega)))
  ·have hv : args.getD (i : Int).toNat 0 = regN args i := by unfold regN; rw [hiz, if_pos (by simpa using hb)]
   clear hb
   refine ⟨i + 1, hlt, by omega, ?_⟩
   refine Weak.list [((3, 0, 0), .old (3, 0, 0), Zam (Zao m)), ((6, 0, 0), .old (6, 0, 0), Zam [iv 0, iv 0, iv 0, .nsl, .int .u16 0]), ((8, 0, 0), .old (8, 0, 0), .row false 5 1 (fun _ => [iv n, iv 0, iv 0, .rs (101, 0, 0) 1 0 (i + 1), .int .u16 0])), ((101, 0, 0), .old (54, 0, 0), .row true 1 (i + 1) (fun q => [.int .u16 (regN args q)]))] rfl (by rfl) ?_ (.old rfl (BLe.refl _) (.old rfl (BLe.refl _) (.old rfl (BLe.rowW (Nat.le_refl _) (ltS (Wks.of rfl) lt0)) (.old rfl (BLe.rowW (Nat.le_refl _) (fun z hz => Wks.of (by simp only [allB, Zch, Bool.true_and, Bool.and_true, Bool.and_self, cond_true]; exact appF hz hv))) .nil))))
   ((repeat' first | exact TLes.nil | refine tE rfl ?_ | refine TLes.cons (TLe.int ?_) ?_); (all_goals first | ((try (simp only [Zac, kZ, kA, kB, mL, Zab] at *)); exact Zal (by omega) (by omega)) | skip))
  ·have hv : (0 : Int) = regN args i := by unfold regN; rw [if_neg (by simpa using hb)]
   clear hb
   refine ⟨i + 1, hlt, by omega, ?_⟩
   refine Weak.list [((3, 0, 0), .old (3, 0, 0), Zam (Zao m)), ((6, 0, 0), .old (6, 0, 0), Zam [iv 0, iv 0, iv 0, .nsl, .int .u16 0]), ((8, 0, 0), .old (8, 0, 0), .row false 5 1 (fun _ => [iv n, iv 0, iv 0, .rs (101, 0, 0) 1 0 (i + 1), .int .u16 0])), ((101, 0, 0), .old (59, 0, 0), .row true 1 (i + 1) (fun q => [.int .u16 (regN args q)]))] rfl (by rfl) ?_ (.old rfl (BLe.refl _) (.old rfl (BLe.refl _) (.old rfl (BLe.rowW (Nat.le_refl _) (ltS (Wks.of rfl) lt0)) (.old rfl (BLe.rowW (Nat.le_refl _) (fun z hz => Wks.of (by simp only [allB, Zch, Bool.true_and, Bool.and_true, Bool.and_self, cond_true]; exact appF hz hv))) .nil))))
   ((repeat' first | exact TLes.nil | refine tE rfl ?_ | refine TLes.cons (TLe.int ?_) ?_); (all_goals first | ((try (simp only [Zac, kZ, kA, kB, mL, Zab] at *)); exact Zal (by omega) (by omega)) | skip))
 ·have hil : i = R.toNat := by rw [hRe] at hb; simp only [decide_eq_false_iff_not] at hb; omega
  clear hb
  subst hil
  skip
  rw [hfr]
  refine ⟨_, rfl, Rel.tup (.cons (Rel.agg (.cons (Rel.imm rfl) (.cons (Rel.imm rfl) (.cons (Rel.imm rfl) (.cons (Rel.row rfl rfl (by simp) (fun z hz => ?_)) (.cons (Rel.imm rfl) .nil)))))) (.cons (Rel.imm rfl) .nil))⟩
  have hz2 : z < R.toNat := by simpa using hz
  rw [List.getD_eq_getElem?_getD, List.getElem?_map, List.getElem?_range hz2]; rfl
def padOf (m : Zak) (f : Za5) (pad : Int) : Zbs := (m.funcs.getD f.f.toNat default).blocks.getD pad.toNat default
def landF (m : Zak) (f : Za5) (pad w : Int) : Za5 := frW { f with block := pad, at_ := 0, fly := w } (padOf m f pad).pad.dst w
set_option maxHeartbeats 1000000 in
theorem c_Land (m : Zak) (f : Za5) (pad w : Int) (h0 : 0 ≤ f.f) (h1 : f.f < m.funcs.length) (p0 : 0 ≤ pad) (p1 : pad < (m.funcs.getD f.f.toNat default).blocks.length) (hl : (padOf m f pad).landing = true)
  (hd : 0 ≤ (padOf m f pad).pad.dst ∧ (padOf m f pad).pad.dst < f.regs.length) :
  FC Tryz.prog 153 [.agg (Zao m), .agg (Zay f), iv pad, .int .u16 w] (.tup [.agg (Zay (landF m f pad w)), iv 0]) := by
 refine Zan tok Tryz.func153 rfl (by decide +kernel) (nB rfl) ?_
 have hmx : mL = 4294967296 := rfl
 have hW := c_With { f with block := pad, at_ := 0, fly := w } (padOf m f pad).pad.dst w hd.1 hd.2
 ((repeat' first | refine Zad ?_ | (refine Zaa tok (by rfl) ?_; conv => whnf) | (refine Za2 tok mix (by rfl) ?_; conv => whnf) | (refine Zag ?_; conv => whnf) | (refine Zah ?_; conv => whnf) | refine Zaf rfl (fun hb => ?_) (fun hb => ?_) | (refine uA ?_ ?_; rotate_left; (conv => whnf); rotate_right)); all_goals (try ((guard_target = Zac _ _ _ _); (first | refine Zae ?_ | (refine Za7 ?_; intro hgd; (conv at hgd => whnf))); (all_goals (try simp only [Zac, kZ, kA, kB, mL, Zab] at *)); all_goals omega)))
 ·exfalso
  unfold padOf at hl
  rw [decide_eq_false (show ¬ pad < 0 by omega), decide_eq_false (show ¬ ((m.funcs.getD f.f.toNat default).blocks.length : Int) ≤ pad by omega), hl] at hb
  cases hb
 clear hb
 refine .inl ⟨_, _, _, uG (QC.fc hW rfl), ?_⟩
 conv => whnf
 (repeat' (refine Zah ?_; conv => whnf))
 exact ⟨_, rfl, Rel.tup (.cons (Rel.agg (Rels.imm rfl)) (.cons (Rel.imm rfl) .nil))⟩
end Go.Proofs.YtoelbgjpmpoolaaGreat
namespace Go.Proofs.YtoelbgjpmpoolaaGreat
open Go Dv
set_option maxRecDepth 10000
set_option linter.unusedSimpArgs false
structure Mach where
 stack : List Za5
 (cells inputs events : List Int)
 (done value : Int)
deriving Inhabited
def frs (l : List Za5) : AV := .sl 5 l.length fun i => Zay (l.getD i default)
abbrev cw (l : List Int) (k : Nat) : AV := .int .u16 (l.getD k 0)
def Zar (s : Mach) : List AV := [frs s.stack, cw s.cells 0, cw s.cells 1, cw s.cells 2, cw s.cells 3, cw s.cells 4, cw s.cells 5, cw s.cells 6, cw s.cells 7, cw s.cells 8, cw s.cells 9, cw s.cells 10, cw s.cells 11, cw s.cells 12, cw s.cells 13, cw s.cells 14, cw s.cells 15, u16s s.inputs, ints s.events, iv s.done, .int .u16 s.value]
def endM (s : Mach) (how w : Int) : Mach := { s with done := how, value := w }
theorem c_ended (s : Mach) (how w : Int) : FC Tryz.prog 150 [.agg (Zar s), iv how, .int .u16 w] (.agg (Zar (endM s how w))) := by
 refine Zan tok Tryz.func150 rfl (by decide +kernel) (nB rfl) ?_
 (repeat' first | refine Zad ?_ | (refine Zaa tok (by rfl) ?_; conv => whnf) | (refine Zah ?_; conv => whnf))
 exact ⟨_, rfl, Rel.agg (Rels.imm rfl)⟩
def Zbd (m : Zak) (f : Za5) : Func := m.funcs.getD f.f.toNat default
def Za4 (m : Zak) (f : Za5) : Zbs := (Zbd m f).blocks.getD f.block.toNat default
structure OkF (m : Zak) (f : Za5) : Prop where
 f0 : 0 ≤ f.f
 f1 : f.f < m.funcs.length
 b0 : 0 ≤ f.block
 b1 : f.block < (Zbd m f).blocks.length
 a0 : 0 ≤ f.at_
 a1 : f.at_ ≤ (Za4 m f).ins.length
 regs : (f.regs.length : Int) = (Zbd m f).regs
theorem c_stands (m : Zak) (f : Za5) (h : OkF m f) : FC Tryz.prog 105 [.agg (Zao m), .agg (Zay f)] (.tup [.agg (Zbg (Za4 m f)), .bool (decide (f.at_ = (Za4 m f).ins.length))]) := by
 refine Zan tok Tryz.func105 rfl (by decide +kernel) (nB rfl) ?_
 have h1 := h.f0
 have h2 := h.f1
 have h3 := h.b0
 have h4 : f.block < (m.funcs.getD f.f.toNat default).blocks.length := h.b1
 ((repeat' first | refine Zad ?_ | (refine Zaa tok (by rfl) ?_; conv => whnf) | (refine Za2 tok mix (by rfl) ?_; conv => whnf) | (refine Zah ?_; conv => whnf) | (refine uA ?_ ?_; rotate_left; (conv => whnf); rotate_right)); all_goals (try ((guard_target = Zac _ _ _ _); refine Zae ?_; all_goals omega)))
 exact ⟨_, rfl, Rel.tup (.cons (Rel.agg (Rels.imm rfl)) (.cons (Rel.bool rfl) .nil))⟩
theorem app_two {k z : Nat} {l : List Za5} {x : Za5} {F : Nat → List AV} (hl : l.length = k) (hz : z < k + 1) (hF : ∀ i, i < k → F i = Zay (l.getD i default)) : appR k F (fun i => Zfd 5 (Zay x) (0 + i)) z = Zay ((l ++ [x]).getD z default) := by
 unfold appR
 by_cases e : z < k
 ·rw [show Nat.blt z k = true from by rw [Nat.blt_eq]; exact e, cond_true, hF z e]
  simp [List.getD_eq_getElem?_getD, List.getElem?_append_left (show z < l.length by omega)]
 ·have e2 : z = l.length := by omega
  subst e2
  rw [show Nat.blt l.length k = false from by rw [Bool.eq_false_iff]; intro h; rw [Nat.blt_eq] at h; omega, cond_false]
  have e3 : l.length - k = 0 := by omega
  rw [e3]
  have e4 : (l ++ [x]).getD l.length default = x := by simp [List.getD_eq_getElem?_getD]
  rw [e4]; rfl
theorem Zbi {l : List Za5} {k i : Nat} (d : Za5) (h : i < k) : (l.take k).getD i d = l.getD i d := by
 rw [List.getD_eq_getElem?_getD, List.getElem?_take, if_pos h, ← List.getD_eq_getElem?_getD]
def Zbh (s : Mach) (f : Za5) : Mach := { s with stack := s.stack.take (s.stack.length - 1) ++ [f] }
set_option maxHeartbeats 1000000 in
theorem Zet (s : Mach) (f : Za5) (h : 0 < s.stack.length) : FC Tryz.prog 110 [.agg (Zar s), .agg (Zay f)] (.agg (Zar (Zbh s f))) := by
 refine Zan tok Tryz.func110 rfl (by decide +kernel) (nB rfl) ?_
 refine Zap 0 (fun hl => ?_)
 have hl0 : s.stack.length ≤ mL := hl.1.1
 have hmx : mL = 4294967296 := rfl
 clear hl
 ((repeat' first | refine Zad ?_ | (refine Zaa tok (by rfl) ?_; conv => whnf) | (refine Zah ?_; conv => whnf) | (refine uA ?_ ?_; rotate_left; (conv => whnf); rotate_right)); all_goals (try ((guard_target = Zac _ _ _ _); refine Zae ?_; (first | refine And.intro (Zcy rfl ?_) ?_ | refine And.intro Zcx ?_ | skip); (all_goals (try simp only [Zac, kZ, kA, kB, mL, Zab] at *)); (all_goals (try (simp (disch := omega) only [Zal]))); all_goals omega)))
 have hq : (IntKind.i64.wrap ((s.stack.length : Int) - 1)).toNat = s.stack.length - 1 := by rw [Zal (by omega) (by omega)]; omega
 have hk : 0 + ((IntKind.i64.wrap ((s.stack.length : Int) - 1)).toNat - Int.toNat 0) = s.stack.length - 1 := by rw [hq]; simp
 refine ⟨_, rfl, Rel.agg (.cons (Rel.row rfl ?_ ?_ (fun z hz => ?_)) (Rels.imm rfl))⟩
 ·rfl
 ·rw [hk]; simp [Zbh]
 ·rw [hk, show (Zbh s f).stack = s.stack.take (s.stack.length - 1) ++ [f] from rfl]
  simp only [allB, Zch, Bool.true_and, Bool.and_true, Bool.and_self, cond_true]
  refine app_two (l := s.stack.take (s.stack.length - 1)) (by simp) (by simp [Zbh] at hz; omega) (fun i hi => ?_)
  show Zay (s.stack.getD (Int.toNat 0 + i) default) = _
  rw [show Int.toNat 0 + i = i from Nat.zero_add i, Zbi _ hi]
end Go.Proofs.YtoelbgjpmpoolaaGreat
namespace Go.Proofs.YtoelbgjpmpoolaaGreat
open Go Dv
set_option maxRecDepth 10000
set_option linter.unusedSimpArgs false
def endB (m : Zak) (f : Za5) : Bool := decide (f.at_ = (Za4 m f).ins.length)
def padF (m : Zak) (f : Za5) : Pad := ((Zbd m f).blocks.getD (Za4 m f).fin.pad.toNat default).pad
def Zes (m : Zak) (f : Za5) (w : Int) (c : Bool) : Bool := endB m f && (decide ((Za4 m f).fin.kind = 4) && (catchF (padF m f) w || (c && (padF m f).cleanup)))
set_option maxHeartbeats 1000000 in
theorem c_catcher (m : Zak) (f : Za5) (w : Int) (c : Bool) (h : OkF m f) (hp : (Za4 m f).fin.kind = 4 → 0 ≤ (Za4 m f).fin.pad ∧ (Za4 m f).fin.pad < (Zbd m f).blocks.length) :
  FC Tryz.prog 152 [.agg (Zao m), .agg (Zay f), .int .u16 w, .bool c] (.bool (Zes m f w c)) := by
 refine Zan tok Tryz.func152 rfl (by decide +kernel) (nB rfl) ?_
 have h1 := h.f0
 have h2 := h.f1
 have hS := c_stands m f h
 have hgen : ∃ b, Za4 m f = b := ⟨_, rfl⟩
 obtain ⟨b, hbe⟩ := hgen
 have hC := c_Catches (padF m f) w
 have hpf : padF m f = ((m.funcs.getD f.f.toNat default).blocks.getD b.fin.pad.toNat default).pad := by unfold padF Zbd; rw [hbe]
 have hpl : b.fin.kind = 4 → 0 ≤ b.fin.pad ∧ b.fin.pad < (m.funcs.getD f.f.toNat default).blocks.length := by rw [← hbe]; exact hp
 unfold Zes endB
 rw [hbe] at hS ⊢
 (repeat' first | refine Zad ?_ | (refine Zaa tok (by rfl) ?_; conv => whnf))
 refine .inl ⟨_, _, _, uG (QC.fc hS rfl), ?_⟩
 conv => whnf
 ((repeat' first | refine Zad ?_ | (refine Zaa tok (by rfl) ?_; conv => whnf) | (refine Za2 tok mix (by rfl) ?_; conv => whnf) | (refine Zag ?_; conv => whnf) | (refine Zah ?_; conv => whnf) | refine Zaf rfl (fun hb => ?_) (fun hb => ?_) | (refine uA ?_ ?_; rotate_left; (conv => whnf); rotate_right)); all_goals (try ((guard_target = Zac _ _ _ _); refine Zae ?_; (all_goals (try simp only [Zac, kZ, kA, kB, mL, Zab] at *)); all_goals omega)))
 ·refine ⟨_, rfl, Rel.bool ?_⟩
  by_cases e1 : f.at_ = (b.ins.length : Int) <;> by_cases e2 : b.fin.kind = 4 <;> simp [e1, e2] at hb ⊢
 have he : f.at_ = (b.ins.length : Int) ∧ b.fin.kind = 4 := by
  by_cases e1 : f.at_ = (b.ins.length : Int) <;> by_cases e2 : b.fin.kind = 4 <;> simp [e1, e2] at hb ⊢
 clear hb
 obtain ⟨hp0, hp1⟩ := hpl he.2
 have hcall : ∀ p, p = padF m f → FC Tryz.prog 193 [.agg (Zc1 p), .int .u16 w] (.bool (catchF (padF m f) w)) := fun p e => by rw [e]; exact c_Catches _ _
 skip
 refine .inl ⟨_, _, _, uG (QC.fc (hcall ((m.funcs.getD f.f.toNat default).blocks.getD b.fin.pad.toNat default).pad hpf.symm) rfl), ?_⟩
 conv => whnf
 (repeat' (refine Zah ?_; conv => whnf))
 refine ⟨_, rfl, Rel.bool ?_⟩
 rw [hpf, decide_eq_true he.1, decide_eq_true he.2]
 cases catchF ((m.funcs.getD f.f.toNat default).blocks.getD b.fin.pad.toNat default).pad w <;> cases c <;> simp
def topF (s : Mach) : Za5 := s.stack.getD (s.stack.length - 1) default
def Zb2 (f : Za5) (l : List Int) : List Int := l.map fun p => f.regs.getD p.toNat 0
def Zb1 (m : Zak) (s : Mach) (n : Int) (places : List Int) : Mach := if 32 ≤ s.stack.length then endM s 5 0 else { s with stack := s.stack ++ [frN m n (Zb2 (topF s) places)] }
theorem Zbu {α : Type} (d : α) {l : List α} {i : Nat} (h : i < l.length) : l.getD i d ∈ l := by rw [Zbl d h]; exact List.getElem_mem h
set_option maxHeartbeats 2000000 in
theorem c_rcalled (m : Zak) (s : Mach) (n : Int) (places : List Int) (h : 0 < s.stack.length) (h0 : 0 ≤ n) (h1 : n < m.funcs.length) (hp : (places.length : Int) = (m.funcs.getD n.toNat default).params) (hR : (m.funcs.getD n.toNat default).regs ≤ 256)
    (hpl : ∀ p ∈ places, 0 ≤ p ∧ p < (topF s).regs.length) : FC Tryz.prog 108 [.agg (Zao m), .agg (Zar s), iv n, ints places] (.agg (Zar (Zb1 m s n places))) := by
  refine Zan tok Tryz.func108 rfl (by decide +kernel) (nB rfl) ?_
  refine Zap 1 (fun hl => ?_)
  have hl0 : s.stack.length ≤ mL := hl.1.1
  refine Zap 3 (fun hl => ?_)
  have hl1 : places.length ≤ mL := hl.1
  have hmx : mL = 4294967296 := rfl
  clear hl
  have hN := c_frNew m n (Zb2 (topF s) places) h0 h1 (by unfold Zb2; rw [List.length_map]; exact hp) hR
  have hq : (IntKind.i64.wrap ((s.stack.length : Int) - 1)).toNat = s.stack.length - 1 := by rw [Zal (by omega) (by omega)]; omega
  have ht : s.stack.getD (IntKind.i64.wrap ((s.stack.length : Int) - 1)).toNat default = topF s := by rw [hq]; rfl
  have hgen : ∃ t, topF s = t := ⟨_, rfl⟩
  obtain ⟨t, hte⟩ := hgen
  rw [hte] at ht hpl hN
  (repeat' ((fail_if_success (show Rg 3)); first | refine Zad ?_ | (refine Zaa tok (by rfl) ?_; conv => whnf) | (refine Zag ?_; conv => whnf) | refine Zaf rfl (fun hb => ?_) (fun hb => ?_)))
  · have h32 : 32 ≤ s.stack.length := by simp only [decide_eq_true_eq] at hb; omega
    clear hb
    rw [show Zb1 m s n places = endM s 5 0 from if_pos h32]
    refine .inl ⟨_, _, _, uG (QC.fc (c_ended s 5 0) rfl), ?_⟩
    conv => whnf
    (repeat' (refine Zah ?_; conv => whnf))
    exact ⟨_, rfl, Rel.agg (Rels.imm rfl)⟩
  have h32 : ¬ 32 ≤ s.stack.length := by simp only [decide_eq_false_iff_not] at hb; omega
  clear hb
  rw [show Zb1 m s n places = { s with stack := s.stack ++ [frN m n (Zb2 (topF s) places)] } from if_neg h32, hte]
  ((repeat' ((fail_if_success (show Rg 6)); first | refine Zad ?_ | (refine Zaa tok (by rfl) ?_; conv => whnf) | refine Zaj ?_ | (refine uA ?_ ?_; rotate_left; (conv => whnf); rotate_right))); all_goals (try ((guard_target = Zac _ _ _ _); refine Zae ?_; (all_goals (try simp only [Zac, kZ, kA, kB, mL, Zab] at *)); (all_goals (try (simp (disch := omega) only [Zal]))); all_goals omega)))
  refine Za3 (fun j : Nat => mkS [(2, iv n), (3, ints places), (4, .bp (4, 0, 0) 0), (5, .bp (5, 0, 0) 0), (8, .bp (8, 0, 0) 0), (9, .bp (9, 0, 0) 0), (10, .rs (101, 0, 0) 1 0 j), (11, iv j)] [((4, 0, 0), Zam (Zao m)), ((5, 0, 0), Zam (Zar s)), ((8, 0, 0), Zam [.nsl, .int .u16 0, .int .u16 0, .int .u16 0, .int .u16 0, .int .u16 0, .int .u16 0, .int .u16 0, .int .u16 0, .int .u16 0, .int .u16 0, .int .u16 0, .int .u16 0, .int .u16 0, .int .u16 0, .int .u16 0, .int .u16 0, .nsl, .nsl, iv 0, .int .u16 0]), ((9, 0, 0), .row true 5 1 (fun _ => Zay t)), ((101, 0, 0), .row true 1 j (fun q => [.int .u16 ((Zb2 t places).getD q 0)]))]) (fun j => j ≤ places.length) (fun j => places.length - j) 0 (Nat.zero_le _) ?_ ?_
  · refine Weak.list [((4, 0, 0), .old (4, 0, 0), Zam (Zao m)), ((5, 0, 0), .old (5, 0, 0), Zam (Zar s)), ((8, 0, 0), .old (8, 0, 0), Zam [.nsl, .int .u16 0, .int .u16 0, .int .u16 0, .int .u16 0, .int .u16 0, .int .u16 0, .int .u16 0, .int .u16 0, .int .u16 0, .int .u16 0, .int .u16 0, .int .u16 0, .int .u16 0, .int .u16 0, .int .u16 0, .int .u16 0, .nsl, .nsl, iv 0, .int .u16 0]), ((9, 0, 0), .old (9, 0, 0), .row true 5 1 (fun _ => Zay t)), ((101, 0, 0), .nil, .row true 1 0 (fun q => [.int .u16 ((Zb2 t places).getD q 0)]))] rfl (by rfl) ?_ (.old rfl (BLe.refl _) (.old rfl (BLe.refl _) (.old rfl (BLe.refl _) (.old rfl (BLe.rowW (Nat.le_refl _) (ltS (Wks.of (by rw [← ht]; rfl)) lt0)) (.new .nil)))))
    ((repeat' first | exact TLes.nil | refine tE rfl ?_ | refine TLes.cons (TLe.nilL rfl ?_) ?_); (all_goals first | rfl | skip))
  intro j hj
  (repeat' ((fail_if_success (show Rg 8)); first | refine Zad ?_ | (refine Zaa tok (by rfl) ?_; conv => whnf) | refine Zaj ?_ | (refine Zag ?_; conv => whnf) | (refine Za0 ?_; conv => whnf) | refine Zaf rfl (fun hb => ?_) (fun hb => ?_)))
  · have hlt : j < places.length := by simp only [decide_eq_true_eq] at hb; omega
    clear hb
    have hjz : (j : Int).toNat = j := by simp
    have hpj := hpl _ (Zbu 0 hlt)
    have hpj' : 0 ≤ places.getD (j : Int).toNat 0 ∧ places.getD (j : Int).toNat 0 < t.regs.length := by rw [hjz]; exact hpj
    have hv : t.regs.getD (places.getD (j : Int).toNat 0).toNat 0 = (Zb2 t places).getD j 0 := by
      unfold Zb2
      rw [hjz, List.getD_eq_getElem?_getD (l := places.map _), List.getElem?_map, List.getElem?_eq_getElem hlt, Zbl 0 hlt]; rfl
    ((repeat' first | (refine Zaa tok (by rfl) ?_; conv => whnf) | (refine Za2 tok mix (by rfl) ?_; conv => whnf) | (refine uA ?_ ?_; rotate_left; (conv => whnf); rotate_right)); all_goals (try ((guard_target = Zac _ _ _ _); refine Zae ?_; (first | refine And.intro (Zcy rfl ?_) ?_ | skip); (all_goals (try simp only [Zac, kZ, kA, kB, mL, Zab] at *)); all_goals omega)))
    refine ⟨j + 1, hlt, by omega, ?_⟩
    refine Weak.list [((4, 0, 0), .old (4, 0, 0), Zam (Zao m)), ((5, 0, 0), .old (5, 0, 0), Zam (Zar s)), ((8, 0, 0), .old (8, 0, 0), Zam [.nsl, .int .u16 0, .int .u16 0, .int .u16 0, .int .u16 0, .int .u16 0, .int .u16 0, .int .u16 0, .int .u16 0, .int .u16 0, .int .u16 0, .int .u16 0, .int .u16 0, .int .u16 0, .int .u16 0, .int .u16 0, .int .u16 0, .nsl, .nsl, iv 0, .int .u16 0]), ((9, 0, 0), .old (9, 0, 0), .row true 5 1 (fun _ => Zay t)), ((101, 0, 0), .old (44, 0, 0), .row true 1 (j + 1) (fun q => [.int .u16 ((Zb2 t places).getD q 0)]))] rfl (by rfl) ?_ (.old rfl (BLe.refl _) (.old rfl (BLe.refl _) (.old rfl (BLe.refl _) (.old rfl (BLe.refl _) (.old rfl (BLe.rowW (Nat.le_refl _) (fun z hz => Wks.of (by simp only [allB, Zch, Bool.true_and, Bool.and_true, Bool.and_self, cond_true]; exact appF hz hv))) .nil)))))
    ((repeat' first | exact TLes.nil | refine tE rfl ?_ | refine TLes.cons (TLe.int ?_) ?_); (all_goals first | ((try (simp only [Zac, kZ, kA, kB, mL, Zab] at *)); exact Zal (by omega) (by omega)) | skip))
  · have hjl : j = places.length := by simp only [decide_eq_false_iff_not] at hb; omega
    clear hb
    subst hjl
    have hal : (Zb2 t places).length = places.length := by simp [Zb2]
    skip
    refine .inr ⟨_, _, _, uG (QH.give (rd := [(101, 0, 0)]) hN (.i (.i (.cons (.row rfl (.head _) rfl hal.symm (fun q hq => rfl)) .nil))) rfl), ?_⟩
    conv => whnf
    (repeat' ((fail_if_success (show Rg 10)); refine Zad ?_))
    refine AWp_soft tok mix (by rfl) [1, 2, 4, 7] 20 (by rfl) (by rfl) (by rfl) ?_
    conv => whnf
    repeat' first
      | (refine uA ?_ ?_; rotate_left; (conv => whnf); rotate_right)
      | (guard_target = And _ _; refine @And.intro (gOp _ _ _ _ _ _ _ _ _) _ (by (conv => whnf); exact ⟨rfl, rfl⟩) ?_; conv => whnf)
      | (guard_target = And _ _; refine And.intro ?_ ?_ <;> (conv => whnf))
    all_goals (try ((guard_target = Zac _ _ _ _); refine Zae ?_; (first | refine And.intro (Zcy rfl ?_) ?_ | refine And.intro Zcx ?_ | skip); (all_goals (try simp only [Zac, kZ, kA, kB, mL, Zab] at *)); all_goals omega))
    all_goals (repeat' first | refine Zad ?_ | (refine Zaa tok (by rfl) ?_; conv => whnf) | (refine Zah ?_; conv => whnf))
    all_goals refine ⟨_, rfl, Rel.agg (.cons (Rel.row rfl ?_ ?_ (fun z hz => ?_)) (Rels.imm rfl))⟩
    all_goals first
      | rfl
      | (show 0 + s.stack.length + 1 = (s.stack ++ [frN m n (Zb2 t places)]).length; simp; done)
      | (have hz' : z < (s.stack ++ [frN m n (Zb2 t places)]).length := hz
         rw [Nat.zero_add]
         simp only [allB, Zch, Bool.true_and, Bool.and_true, Bool.and_self, cond_true]
         exact app_two (l := s.stack) rfl (by simp at hz'; omega) (fun i hi => rfl))
set_option linter.unusedSimpArgs false
abbrev Zcu : List AV := [.nsl, .int .u16 0, .int .u16 0, .int .u16 0, .int .u16 0, .int .u16 0, .int .u16 0, .int .u16 0, .int .u16 0, .int .u16 0, .int .u16 0, .int .u16 0, .int .u16 0, .int .u16 0, .int .u16 0, .int .u16 0, .int .u16 0, .nsl, .nsl, iv 0, .int .u16 0]
def popM (s : Mach) : Mach := { s with stack := s.stack.take (s.stack.length - 1) }
theorem Zcl {s : Mach} : (popM s).stack.length = s.stack.length - 1 := by simp [popM]
def answF (m : Zak) (f : Za5) (w : Int) : Za5 :=
 if endB m f = true then { frW f (Za4 m f).fin.dst w with block := (Za4 m f).fin.to, at_ := 0 }
 else { frW f ((Za4 m f).ins.getD f.at_.toNat default).dst w with at_ := f.at_ + 1 }
def Zbp (m : Zak) (s : Mach) (w : Int) : Mach := if s.stack.length = 1 then endM (popM s) 1 w else Zbh (popM s) (answF m (topF (popM s)) w)
theorem wk_pop {s : Mach} {n : Nat} (hn : n = s.stack.length - 1) : Wk (.sl 5 n (fun i => (fun i => Zay (s.stack.getD i default)) (Int.toNat 0 + i))) (frs (popM s).stack) := by
 subst hn
 refine .sl Zcl.symm (fun i hi => ?_)
 show Zay (s.stack.getD (Int.toNat 0 + i) default) = Zay ((s.stack.take (s.stack.length - 1)).getD i default)
 rw [show Int.toNat 0 + i = i from Nat.zero_add i, Zbi _ hi]
set_option maxHeartbeats 2000000 in
theorem c_answered (m : Zak) (s : Mach) (w : Int) (h : 0 < s.stack.length) (hF : 1 < s.stack.length → OkF m (topF (popM s))) (hat : 1 < s.stack.length → (topF (popM s)).at_ < 1000000)
  (hd1 : 1 < s.stack.length → endB m (topF (popM s)) = true → 0 ≤ (Za4 m (topF (popM s))).fin.dst ∧ (Za4 m (topF (popM s))).fin.dst < (topF (popM s)).regs.length)
  (hd2 : 1 < s.stack.length → endB m (topF (popM s)) = false → 0 ≤ ((Za4 m (topF (popM s))).ins.getD (topF (popM s)).at_.toNat default).dst ∧ ((Za4 m (topF (popM s))).ins.getD (topF (popM s)).at_.toNat default).dst < (topF (popM s)).regs.length) :
  FC Tryz.prog 107 [.agg (Zao m), .agg (Zar s), .int .u16 w] (.agg (Zar (Zbp m s w))) := by
 refine Zan tok Tryz.func107 rfl (by decide +kernel) (nB rfl) ?_
 refine Zap 1 (fun hl => ?_)
 have hl0 : s.stack.length ≤ mL := hl.1.1
 have hmx : mL = 4294967296 := rfl
 clear hl
 have hq : (IntKind.i64.wrap ((s.stack.length : Int) - 1)).toNat = s.stack.length - 1 := by rw [Zal (by omega) (by omega)]; omega
 have hpl := Zcl (s := s)
 ((repeat' ((fail_if_success (show Rg 2)); first | refine Zad ?_ | (refine Zaa tok (by rfl) ?_; conv => whnf) | (refine uA ?_ ?_; rotate_left; (conv => whnf); rotate_right))); all_goals (try ((guard_target = Zac _ _ _ _); refine Zae ?_; (all_goals (try simp only [Zac, kZ, kA, kB, mL, Zab] at *)); (all_goals (try (simp (disch := omega) only [Zal]))); all_goals omega)))
 refine Zaz (Weak.list (tl := [(2, .int .u16 w), (3, .bp (3, 0, 0) 0), (4, .bp (4, 0, 0) 0), (6, .bp (6, 0, 0) 0)]) [((3, 0, 0), .old (3, 0, 0), Zam (Zao m)), ((4, 0, 0), .old (4, 0, 0), Zam (Zar (popM s))), ((6, 0, 0), .old (6, 0, 0), Zam Zcu)] rfl (by rfl) ?_ (.old rfl (BLe.refl _) (.old rfl (BLe.rowW (Nat.le_refl _) (ltS (.cons (wk_pop (by rw [hq]; simp)) (Wks.refl _)) lt0)) (.old rfl (BLe.refl _) .nil)))) ?_
 ·((repeat' first | exact TLes.nil | refine tE rfl ?_); skip)
 (repeat' ((fail_if_success (show Rg 3)); (fail_if_success (show Rg 4)); first | refine Zad ?_ | (refine Zaa tok (by rfl) ?_; conv => whnf) | (refine Zag ?_; conv => whnf) | refine Zaf rfl (fun hb => ?_) (fun hb => ?_)))
 ·have h1 : s.stack.length = 1 := by rw [hpl] at hb; simp only [decide_eq_true_eq] at hb; omega
  rw [show Zbp m s w = endM (popM s) 1 w from if_pos h1]
  (repeat' (refine Zaa tok (by rfl) ?_; conv => whnf))
  refine .inl ⟨_, _, _, uG (QC.fc (c_ended (popM s) 1 w) rfl), ?_⟩
  conv => whnf
  (repeat' (refine Zah ?_; conv => whnf))
  exact ⟨_, rfl, Rel.agg (Rels.imm rfl)⟩
 have h1 : ¬ s.stack.length = 1 := by rw [hpl] at hb; simp only [decide_eq_false_iff_not] at hb; omega
 clear hb
 have h2 : 1 < s.stack.length := by omega
 have hOk := hF h2
 have hat1 := hat h2
 have hd1 := hd1 h2
 have hd2 := hd2 h2
 have hp0 : 0 < (popM s).stack.length := by omega
 have hpm : (popM s).stack.length ≤ mL := by omega
 rw [show Zbp m s w = Zbh (popM s) (answF m (topF (popM s)) w) from if_neg h1]
 have ht : (popM s).stack.getD (IntKind.i64.wrap (((popM s).stack.length : Int) - 1)).toNat default = topF (popM s) := by
  have : (IntKind.i64.wrap (((popM s).stack.length : Int) - 1)).toNat = (popM s).stack.length - 1 := by rw [Zal (by omega) (by omega)]; omega
  rw [this]; rfl
 have hwith := fun g => Zet (popM s) g hp0
 have hgen : ∃ t, topF (popM s) = t := ⟨_, rfl⟩
 obtain ⟨t, hte⟩ := hgen
 rw [hte] at ht hOk hat1 hd1 hd2 ⊢
 have hSt := c_stands m t hOk
 have ha0 := hOk.a0
 have ha1 := hOk.a1
 have hgen : ∃ b, Za4 m t = b := ⟨_, rfl⟩
 obtain ⟨b, hbe⟩ := hgen
 have hE : endB m t = decide (t.at_ = b.ins.length) := by unfold endB; rw [hbe]
 rw [hbe] at hSt ha1 hd1 hd2
 ((repeat' ((fail_if_success (show Rg 5)); first | refine Zad ?_ | (refine Zaa tok (by rfl) ?_; conv => whnf) | (refine uA ?_ ?_; rotate_left; (conv => whnf); rotate_right))); all_goals (try ((guard_target = Zac _ _ _ _); refine Zae ?_; (all_goals (try simp only [Zac, kZ, kA, kB, mL, Zab] at *)); (all_goals (try (simp (disch := omega) only [Zal]))); all_goals omega)))
 refine Zaz (Weak.list (tl := [(2, .int .u16 w), (3, .bp (3, 0, 0) 0), (4, .bp (4, 0, 0) 0), (6, .bp (6, 0, 0) 0), (7, .bp (7, 0, 0) 0)]) [((3, 0, 0), .old (3, 0, 0), Zam (Zao m)), ((4, 0, 0), .old (4, 0, 0), Zam (Zar (popM s))), ((6, 0, 0), .old (6, 0, 0), Zam Zcu), ((7, 0, 0), .old (7, 0, 0), .row true 5 1 (fun _ => Zay t))] rfl (by rfl) ?_ (.old rfl (BLe.refl _) (.old rfl (BLe.refl _) (.old rfl (BLe.refl _) (.old rfl (BLe.rowW (Nat.le_refl _) (ltS (Wks.of (by rw [← ht]; rfl)) lt0)) .nil))))) ?_
 ·((repeat' first | exact TLes.nil | refine tE rfl ?_); skip)
 (repeat' (refine Zaa tok (by rfl) ?_; conv => whnf))
 refine .inl ⟨_, _, _, uG (QC.fc hSt rfl), ?_⟩
 conv => whnf
 ((repeat' first | refine Zad ?_ | (refine Zaa tok (by rfl) ?_; conv => whnf) | (refine Za2 tok mix (by rfl) ?_; conv => whnf) | refine Zaf rfl (fun hb => ?_) (fun hb => ?_) | (refine uA ?_ ?_; rotate_left; (conv => whnf); rotate_right)); all_goals (try ((guard_target = Zac _ _ _ _); refine Zae ?_; (all_goals (try simp only [Zac, kZ, kA, kB, mL, Zab] at *)); all_goals omega)))
 ·have he : endB m t = true := by rw [hE]; exact hb
  clear hb
  obtain ⟨g1, g2⟩ := hd1 he
  refine .inl ⟨_, _, _, uG (QC.fc (c_With t b.fin.dst w g1 g2) rfl), ?_⟩
  conv => whnf
  (repeat' first | refine Zad ?_ | (refine Zaa tok (by rfl) ?_; conv => whnf))
  have hA : answF m t w = { frW t b.fin.dst w with block := b.fin.to, at_ := 0 } := by unfold answF; rw [if_pos he, hbe]
  rw [hA]
  refine .inl ⟨_, _, _, uG (QC.fc (hwith { frW t b.fin.dst w with block := b.fin.to, at_ := 0 }) rfl), ?_⟩
  conv => whnf
  (repeat' (refine Zah ?_; conv => whnf))
  exact ⟨_, rfl, Rel.agg (Rels.imm rfl)⟩
 ·have he : endB m t = false := by rw [hE]; exact hb
  obtain ⟨g1, g2⟩ := hd2 he
  have hlt : t.at_ < b.ins.length := by simp only [decide_eq_false_iff_not] at hb; omega
  clear hb
  skip
  refine .inl ⟨_, _, _, uG (QC.fc (c_With t (b.ins.getD t.at_.toNat default).dst w g1 g2) rfl), ?_⟩
  conv => whnf
  (repeat' first | refine Zad ?_ | (refine Zaa tok (by rfl) ?_; conv => whnf))
  have hA : answF m t w = { frW t (b.ins.getD t.at_.toNat default).dst w with at_ := IntKind.i64.wrap (t.at_ + 1) } := by
   unfold answF
   rw [if_neg (by rw [he]; simp), hbe, Zal (by omega) (by omega)]
  rw [hA]
  refine .inl ⟨_, _, _, uG (QC.fc (hwith { frW t (b.ins.getD t.at_.toNat default).dst w with at_ := IntKind.i64.wrap (t.at_ + 1) }) rfl), ?_⟩
  conv => whnf
  (repeat' (refine Zah ?_; conv => whnf))
  exact ⟨_, rfl, Rel.agg (Rels.imm rfl)⟩
set_option linter.unusedSimpArgs false
theorem Zc9 {m : Zak} (h : Za6 m = true) {n : Nat} (hn : n < m.funcs.length) : Zem m (m.funcs.getD n default) = true := by
 unfold Za6 at h; rw [Bool.and_eq_true] at h
 exact List.all_eq_true.1 h.2 _ (Zbu default hn)
theorem okF_fun {m : Zak} {f : Za5} (hr : Za6 m = true) (h : OkF m f) : Zem m (Zbd m f) = true := Zc9 hr (by have := h.f0; have := h.f1; omega)
theorem okF_blk {m : Zak} {f : Za5} (hr : Za6 m = true) (h : OkF m f) {q : Int} (q0 : 0 ≤ q) (q1 : q < (Zbd m f).blocks.length) : blkB m (Zbd m f) ((Zbd m f).blocks.getD q.toNat default) = true := Zel (okF_fun hr h) (by omega)
theorem Zfi {m : Zak} {f : Za5} (hr : Za6 m = true) (h : OkF m f) : (Za4 m f).ins.length ≤ 64 ∧ EndP m (Zbd m f) (Za4 m f).fin := by
 have := okF_blk hr h h.b0 h.b1
 unfold blkB at this
 rw [Bool.and_eq_true, decide_eq_true_eq] at this
 exact ⟨this.1.1, this.1.2.2⟩
theorem okF_pad {m : Zak} {f : Za5} (hr : Za6 m = true) (h : OkF m f) (hk : (Za4 m f).fin.kind = 4) :
  (0 ≤ (Za4 m f).fin.pad ∧ (Za4 m f).fin.pad < (Zbd m f).blocks.length) ∧ ((Zbd m f).blocks.getD (Za4 m f).fin.pad.toNat default).landing = true ∧
  0 ≤ ((Zbd m f).blocks.getD (Za4 m f).fin.pad.toNat default).pad.dst ∧ ((Zbd m f).blocks.getD (Za4 m f).fin.pad.toNat default).pad.dst < f.regs.length := by
 have he := (Zfi hr h).2
 have h4 : inn (Za4 m f).fin.pad (Zbd m f).blocks.length = true ∧ ((Zbd m f).blocks.getD (Za4 m f).fin.pad.toNat default).landing = true := by
  rcases he with h | h | h | h | h
  ·omega
  ·omega
  ·omega
  ·exact ⟨h.2.2.2.2.2.2.1, h.2.2.2.2.2.2.2⟩
  ·omega
 obtain ⟨h5, h6⟩ := h4
 rw [Zab] at h5
 have hp := okF_blk hr h h5.1 h5.2
 unfold blkB at hp
 rw [Bool.and_eq_true, decide_eq_true_eq] at hp
 have hP := hp.1.2.1
 refine ⟨h5, h6, ?_⟩
 unfold PadP at hP
 rcases hP with h7 | h7
 ·rw [h6] at h7; exact absurd h7.1 (by simp)
 ·have := h7.2.2.2.1
  rw [Zab] at this
  rw [h.regs]; exact this
def Ze5 (p : Nat → Bool) : Nat → Nat
 | 0 => 0
 | n + 1 => if p (n + 1) = true then n + 1 else Ze5 p n
theorem downK_spec {p : Nat → Bool} : ∀ {n : Nat}, (∃ i, i ≤ n ∧ p i = true) → p (Ze5 p n) = true ∧ Ze5 p n ≤ n
  | 0, ⟨i, hi, h⟩ => by have : i = 0 := by omega
                        subst this; exact ⟨h, Nat.le_refl _⟩
  | n + 1, ⟨i, hi, h⟩ => by
      unfold Ze5
      split
      · rename_i h2; exact ⟨h2, Nat.le_refl _⟩
      · rename_i h2
        have := downK_spec (p := p) (n := n) ⟨i, by
          rcases Nat.lt_or_ge n i with h3 | h3
          · have : i = n + 1 := by omega
            subst this; exact absurd h h2
          · exact h3, h⟩
        exact ⟨this.1, by omega⟩
theorem downK_no {p : Nat → Bool} {n : Nat} (h : ∃ i, i ≤ n ∧ p i = true) (hn : ¬ p n = true) : 0 < n ∧ Ze5 p n = Ze5 p (n - 1) := by
  cases n with
  | zero => obtain ⟨i, hi, h⟩ := h; have : i = 0 := by omega
            subst this; exact absurd h hn
  | succ n => refine ⟨by omega, ?_⟩; show (if p (n + 1) = true then n + 1 else Ze5 p n) = _; rw [if_neg hn]; rfl
theorem downK_yes {p : Nat → Bool} {n : Nat} (hn : p n = true) : Ze5 p n = n := by
 cases n with
 | zero => rfl
 | succ n => show (if p (n + 1) = true then n + 1 else _) = _; rw [if_pos hn]
def Zck (m : Zak) (l : List Za5) (w : Int) (c : Bool) (i : Nat) : Bool := Zes m (l.getD i default) w c
def Zep (s : Mach) (k : Nat) : Mach := { s with stack := s.stack.take k }
def Zbt (m : Zak) (s : Mach) (w : Int) : Mach :=
 let l := (popM s).stack
 if (List.range l.length).any (Zck m l w false) = true then
  let k := Ze5 (Zck m l w true) (l.length - 1)
  Zbh (Zep (popM s) (k + 1)) (landF m (l.getD k default) (Za4 m (l.getD k default)).fin.pad w)
 else endM (popM s) 2 w
theorem catch_more {m : Zak} {f : Za5} {w : Int} (h : Zes m f w false = true) : Zes m f w true = true := by
 unfold Zes at h ⊢
 simp only [Bool.false_and, Bool.or_false, Bool.and_eq_true, Bool.true_and, Bool.or_eq_true] at h ⊢
 exact ⟨h.1, h.2.1, .inl h.2.2⟩
theorem wk_take {l : List Za5} {n k : Nat} (hn : n = k) (hk : k ≤ l.length) : Wk (.sl 5 n (fun i => (fun i => Zay (l.getD i default)) (Int.toNat 0 + i))) (frs (l.take k)) := by
 subst hn
 refine .sl (by simp; omega) (fun i hi => ?_)
 show Zay (l.getD (Int.toNat 0 + i) default) = Zay ((l.take n).getD i default)
 rw [show Int.toNat 0 + i = i from Nat.zero_add i, Zbi _ hi]
set_option maxHeartbeats 4000000 in
theorem c_thrown (m : Zak) (s : Mach) (w : Int) (hr : Za6 m = true) (h : 0 < s.stack.length) (hF : ∀ i, i < s.stack.length → OkF m (s.stack.getD i default)) :
  FC Tryz.prog 109 [.agg (Zao m), .agg (Zar s), .int .u16 w] (.agg (Zar (Zbt m s w))) := by
 refine Zan tok Tryz.func109 rfl (by decide +kernel) (nB rfl) ?_
 refine Zap 1 (fun hl => ?_)
 have hl0 : s.stack.length ≤ mL := hl.1.1
 have hmx : mL = 4294967296 := rfl
 clear hl
 have hq : (IntKind.i64.wrap ((s.stack.length : Int) - 1)).toNat = s.stack.length - 1 := by rw [Zal (by omega) (by omega)]; omega
 have hpl := Zcl (s := s)
 have hF2 : ∀ i, i < (popM s).stack.length → OkF m ((popM s).stack.getD i default) := fun i hi => by
  rw [show (popM s).stack.getD i default = s.stack.getD i default from Zbi _ (by omega)]
  exact hF i (by omega)
 have hC : ∀ i, i < (popM s).stack.length → ∀ f, f = (popM s).stack.getD i default → ∀ c, FC Tryz.prog 152 [.agg (Zao m), .agg (Zay f), .int .u16 w, .bool c] (.bool (Zck m (popM s).stack w c i)) := fun i hi f e c => by
  rw [e]; exact c_catcher m _ w c (hF2 i hi) (fun hk => (okF_pad hr (hF2 i hi) hk).1)
 ((repeat' ((fail_if_success (show Rg 2)); first | refine Zad ?_ | (refine Zaa tok (by rfl) ?_; conv => whnf) | (refine uA ?_ ?_; rotate_left; (conv => whnf); rotate_right))); all_goals (try ((guard_target = Zac _ _ _ _); refine Zae ?_; (all_goals (try simp only [Zac, kZ, kA, kB, mL, Zab] at *)); (all_goals (try (simp (disch := omega) only [Zal]))); all_goals omega)))
 (repeat' ((fail_if_success (show Rg 3)); first | (refine Zaa tok (by rfl) ?_; conv => whnf) | refine Zaj ?_))
 refine Za3 (fun i : Nat => mkS [(2, .int .u16 w), (3, .bp (3, 0, 0) 0), (4, .bp (4, 0, 0) 0), (6, .bp (6, 0, 0) 0), (7, iv i)] [((3, 0, 0), Zam (Zao m)), ((4, 0, 0), Zam (Zar (popM s))), ((6, 0, 0), Zam Zcu)]) (fun i => i ≤ (popM s).stack.length ∧ ∀ j, j < i → Zck m (popM s).stack w false j = false) (fun i => (popM s).stack.length - i) 0 ⟨Nat.zero_le _, fun j h => absurd h (Nat.not_lt_zero j)⟩ ?_ ?_
 ·refine Weak.list [((3, 0, 0), .old (3, 0, 0), Zam (Zao m)), ((4, 0, 0), .old (4, 0, 0), Zam (Zar (popM s))), ((6, 0, 0), .old (6, 0, 0), Zam Zcu)] rfl (by rfl) ?_ (.old rfl (BLe.refl _) (.old rfl (BLe.rowW (Nat.le_refl _) (ltS (.cons (wk_pop (by rw [hq]; simp)) (Wks.refl _)) lt0)) (.old rfl (BLe.refl _) .nil)))
  ((repeat' first | exact TLes.nil | refine tE rfl ?_); skip)
 rintro i ⟨hi, hno⟩
 (repeat' ((fail_if_success (show Rg 5)); first | refine Zad ?_ | (refine Zaa tok (by rfl) ?_; conv => whnf) | refine Zaj ?_ | (refine Zag ?_; conv => whnf) | (refine Za0 ?_; conv => whnf) | refine Zaf rfl (fun hb => ?_) (fun hb => ?_)))
 ·have hlt : i < (popM s).stack.length := by simp only [decide_eq_true_eq] at hb; omega
  clear hb
  have hiz : (i : Int).toNat = i := by simp
  ((repeat' first | (refine Za2 tok mix (by rfl) ?_; conv => whnf) | (refine uA ?_ ?_; rotate_left; (conv => whnf); rotate_right)); all_goals (try ((guard_target = Zac _ _ _ _); refine Zae ?_; (all_goals (try simp only [Zac, kZ, kA, kB, mL, Zab] at *)); all_goals omega)))
  refine .inl ⟨_, _, _, uG (QC.fc (hC i hlt ((popM s).stack.getD (i : Int).toNat default) (by rw [hiz]) false) rfl), ?_⟩
  conv => whnf
  (repeat' ((fail_if_success (show Rg 6)); first | refine Zad ?_ | (refine Zaa tok (by rfl) ?_; conv => whnf) | (refine Zag ?_; conv => whnf) | refine Zaf rfl (fun hb => ?_) (fun hb => ?_)))
  ·have hex : ∃ j, j ≤ (popM s).stack.length - 1 ∧ Zck m (popM s).stack w true j = true := ⟨i, by omega, catch_more hb⟩
   have hany : (List.range (popM s).stack.length).any (Zck m (popM s).stack w false) = true := List.any_eq_true.2 ⟨i, List.mem_range.2 hlt, hb⟩
   clear hb
   have hgen : ∃ K, Ze5 (Zck m (popM s).stack w true) ((popM s).stack.length - 1) = K := ⟨_, rfl⟩
   obtain ⟨K, hK⟩ := hgen
   obtain ⟨hK1, hK2⟩ := downK_spec hex
   rw [hK] at hK1 hK2
   have hT : Zbt m s w = Zbh (Zep (popM s) (K + 1)) (landF m ((popM s).stack.getD K default) (Za4 m ((popM s).stack.getD K default)).fin.pad w) := by
    unfold Zbt; rw [if_pos hany, hK]
   rw [hT]
   have hKl : K < (popM s).stack.length := by omega
   have hkOk := hF2 K hKl
   have hk4 : (Za4 m ((popM s).stack.getD K default)).fin.kind = 4 := by
    unfold Zck Zes at hK1
    simp only [Bool.and_eq_true, decide_eq_true_eq] at hK1
    exact hK1.2.1
   obtain ⟨⟨g1, g2⟩, g3, g4, g5⟩ := okF_pad hr hkOk hk4
   have hL := c_Land m ((popM s).stack.getD K default) (Za4 m ((popM s).stack.getD K default)).fin.pad w hkOk.f0 hkOk.f1 g1 g2 g3 ⟨g4, g5⟩
   have htl : (Zep (popM s) (K + 1)).stack.length = K + 1 := by simp [Zep]; omega
   have hwi := fun f => Zet (Zep (popM s) (K + 1)) f (by omega)
   have htk : (Zep (popM s) (K + 1)).stack.getD K default = (popM s).stack.getD K default := Zbi _ (by omega)
   (repeat' ((fail_if_success (show Rg 7)); first | refine Zad ?_ | (refine Zaa tok (by rfl) ?_; conv => whnf) | refine Zaj ?_))
   refine Za3 (fun n : Nat => mkS [(2, .int .u16 w), (3, .bp (3, 0, 0) 0), (4, .bp (4, 0, 0) 0), (6, .bp (6, 0, 0) 0), (7, iv i), (8, iv n)] [((3, 0, 0), Zam (Zao m)), ((4, 0, 0), Zam (Zar (popM s))), ((6, 0, 0), Zam Zcu)]) (fun n => n ≤ (popM s).stack.length - 1 ∧ Ze5 (Zck m (popM s).stack w true) n = K ∧ ∃ j, j ≤ n ∧ Zck m (popM s).stack w true j = true) (fun n => n) ((popM s).stack.length - 1) ⟨Nat.le_refl _, hK, hex⟩ ?_ ?_
   ·refine Weak.list [((3, 0, 0), .old (3, 0, 0), Zam (Zao m)), ((4, 0, 0), .old (4, 0, 0), Zam (Zar (popM s))), ((6, 0, 0), .old (6, 0, 0), Zam Zcu)] rfl (by rfl) ?_ (.old rfl (BLe.refl _) (.old rfl (BLe.refl _) (.old rfl (BLe.refl _) .nil)))
    ((repeat' first | exact TLes.nil | refine tE rfl ?_ | refine TLes.cons (TLe.int ?_) ?_); (all_goals first | ((try (simp only [Zac, kZ, kA, kB, mL, Zab] at *)); (simp (disch := omega) only [Zal]; omega)) | skip))
   rintro n ⟨hn1, hn2, hn3⟩
   have hnz : (n : Int).toNat = n := by simp
   ((repeat' first | refine Zad ?_ | (refine Za2 tok mix (by rfl) ?_; conv => whnf) | (refine uA ?_ ?_; rotate_left; (conv => whnf); rotate_right)); all_goals (try ((guard_target = Zac _ _ _ _); refine Zae ?_; (all_goals (try simp only [Zac, kZ, kA, kB, mL, Zab] at *)); all_goals omega)))
   refine .inl ⟨_, _, _, uG (QC.fc (hC n (by omega) ((popM s).stack.getD (n : Int).toNat default) (by rw [hnz]) true) rfl), ?_⟩
   conv => whnf
   (repeat' ((fail_if_success (show Rg 8)); (fail_if_success (show Rg 9)); first | refine Zad ?_ | refine Zaj ?_ | (refine Zag ?_; conv => whnf) | (refine Za0 ?_; conv => whnf) | refine Zaf rfl (fun hb => ?_) (fun hb => ?_)))
   ·have hnp : ¬ Zck m (popM s).stack w true n = true := by simpa using hb
    clear hb
    obtain ⟨e1, e2⟩ := downK_no hn3 hnp
    (repeat' (refine Zaa tok (by rfl) ?_; conv => whnf))
    refine ⟨n - 1, ⟨by omega, by rw [← e2]; exact hn2, ?_⟩, by omega, ?_⟩
    ·obtain ⟨j, j1, j2⟩ := hn3
     refine ⟨j, ?_, j2⟩
     rcases Nat.lt_or_ge j n with h3 | h3
     ·omega
     ·have : j = n := by omega
      subst this; exact absurd j2 hnp
    ·refine Weak.list [((3, 0, 0), .old (3, 0, 0), Zam (Zao m)), ((4, 0, 0), .old (4, 0, 0), Zam (Zar (popM s))), ((6, 0, 0), .old (6, 0, 0), Zam Zcu)] rfl (by rfl) ?_ (.old rfl (BLe.refl _) (.old rfl (BLe.refl _) (.old rfl (BLe.refl _) .nil)))
     ((repeat' first | exact TLes.nil | refine tE rfl ?_ | refine TLes.cons (TLe.int ?_) ?_); (all_goals first | ((try (simp only [Zac, kZ, kA, kB, mL, Zab] at *)); (simp (disch := omega) only [Zal]; omega)) | skip))
   ·have hnp : Zck m (popM s).stack w true n = true := by simpa using hb
    clear hb
    have hnK : n = K := by rw [← hn2, downK_yes hnp]
    subst hnK
    have hw1 : IntKind.i64.wrap ((n : Int) + 1) = (n : Int) + 1 := Zal (by omega) (by omega)
    ((repeat' ((fail_if_success (show Rg 10)); first | refine Zad ?_ | (refine Zaa tok (by rfl) ?_; conv => whnf) | (refine uA ?_ ?_; rotate_left; (conv => whnf); rotate_right))); all_goals (try ((guard_target = Zac _ _ _ _); refine Zae ?_; (all_goals (try simp only [Zac, kZ, kA, kB, mL, Zab] at *)); (all_goals (try (simp (disch := omega) only [Zal]))); all_goals omega)))
    refine Zaz (Weak.list (tl := [(2, .int .u16 w), (3, .bp (3, 0, 0) 0), (4, .bp (4, 0, 0) 0), (6, .bp (6, 0, 0) 0), (7, iv i), (8, iv n)]) [((3, 0, 0), .old (3, 0, 0), Zam (Zao m)), ((4, 0, 0), .old (4, 0, 0), Zam (Zar (Zep (popM s) (n + 1)))), ((6, 0, 0), .old (6, 0, 0), Zam Zcu)] rfl (by rfl) ?_ (.old rfl (BLe.refl _) (.old rfl (BLe.rowW (Nat.le_refl _) (ltS (.cons (wk_take (by rw [hw1]; simp) (by omega)) (Wks.refl _)) lt0)) (.old rfl (BLe.refl _) .nil)))) ?_
    ·((repeat' first | exact TLes.nil | refine tE rfl ?_); skip)
    ((repeat' ((fail_if_success (show Rg 11)); first | refine Zad ?_ | (refine Zaa tok (by rfl) ?_; conv => whnf) | (refine uA ?_ ?_; rotate_left; (conv => whnf); rotate_right))); all_goals (try ((guard_target = Zac _ _ _ _); refine Zae ?_; (all_goals (try simp only [Zac, kZ, kA, kB, mL, Zab] at *)); all_goals omega)))
    have hgen : ∃ t, (popM s).stack.getD n default = t := ⟨_, rfl⟩
    obtain ⟨t, hte⟩ := hgen
    rw [hte] at htk hL hkOk ⊢
    refine Zaz (Weak.list (tl := [(2, .int .u16 w), (3, .bp (3, 0, 0) 0), (4, .bp (4, 0, 0) 0), (6, .bp (6, 0, 0) 0), (7, iv i), (8, iv n), (9, .bp (9, 0, 0) 0)]) [((3, 0, 0), .old (3, 0, 0), Zam (Zao m)), ((4, 0, 0), .old (4, 0, 0), Zam (Zar (Zep (popM s) (n + 1)))), ((6, 0, 0), .old (6, 0, 0), Zam Zcu), ((9, 0, 0), .old (9, 0, 0), .row true 5 1 (fun _ => Zay t))] rfl (by rfl) ?_ (.old rfl (BLe.refl _) (.old rfl (BLe.refl _) (.old rfl (BLe.refl _) (.old rfl (BLe.rowW (Nat.le_refl _) (ltS (Wks.of (by rw [← htk, hnz]; rfl)) lt0)) .nil))))) ?_
    ·((repeat' first | exact TLes.nil | refine tE rfl ?_); skip)
    have f0 := hkOk.f0
    have f1 := hkOk.f1
    have b0 := hkOk.b0
    have b1 : t.block < (m.funcs.getD t.f.toNat default).blocks.length := hkOk.b1
    ((repeat' first | (refine Za2 tok mix (by rfl) ?_; conv => whnf) | (refine uA ?_ ?_; rotate_left; (conv => whnf); rotate_right)); all_goals (try ((guard_target = Zac _ _ _ _); refine Zae ?_; (all_goals (try simp only [Zac, kZ, kA, kB, mL, Zab] at *)); all_goals omega)))
    refine .inl ⟨_, _, _, uG (QC.fc hL rfl), ?_⟩
    conv => whnf
    (repeat' first | refine Zad ?_ | (refine Zaa tok (by rfl) ?_; conv => whnf))
    refine .inl ⟨_, _, _, uG (QC.fc (hwi (landF m t (Za4 m t).fin.pad w)) rfl), ?_⟩
    conv => whnf
    (repeat' (refine Zah ?_; conv => whnf))
    exact ⟨_, rfl, Rel.agg (Rels.imm rfl)⟩
  ·refine ⟨i + 1, ⟨hlt, fun j hj => ?_⟩, by omega, ?_⟩
   ·by_cases e : j = i
    ·rw [e]; exact hb
    ·exact hno j (by omega)
   refine Weak.list [((3, 0, 0), .old (3, 0, 0), Zam (Zao m)), ((4, 0, 0), .old (4, 0, 0), Zam (Zar (popM s))), ((6, 0, 0), .old (6, 0, 0), Zam Zcu)] rfl (by rfl) ?_ (.old rfl (BLe.refl _) (.old rfl (BLe.refl _) (.old rfl (BLe.refl _) .nil)))
   ((repeat' first | exact TLes.nil | refine tE rfl ?_ | refine TLes.cons (TLe.int ?_) ?_); (all_goals first | ((try (simp only [Zac, kZ, kA, kB, mL, Zab] at *)); exact Zal (by omega) (by omega)) | skip))
 ·have hil : i = (popM s).stack.length := by simp only [decide_eq_false_iff_not] at hb; omega
  clear hb
  subst hil
  have hT : Zbt m s w = endM (popM s) 2 w := by
   unfold Zbt
   rw [if_neg (fun h => ?_)]
   rw [List.any_eq_true] at h
   obtain ⟨j, hj, h2⟩ := h
   rw [List.mem_range] at hj
   rw [hno j hj] at h2; cases h2
  rw [hT]
  skip
  refine .inl ⟨_, _, _, uG (QC.fc (c_ended (popM s) 2 w) rfl), ?_⟩
  conv => whnf
  (repeat' (refine Zah ?_; conv => whnf))
  exact ⟨_, rfl, Rel.agg (Rels.imm rfl)⟩
set_option linter.unusedSimpArgs false
def goOn (f : Za5) : Za5 := { f with at_ := f.at_ + 1 }
def cellN (f : Za5) (x : Ins) : Nat := (f.regs.getD x.a.toNat 0).toNat
def insM (m : Zak) (s : Mach) (f : Za5) (x : Ins) : Mach :=
 if x.op = 11 then Zb1 m s x.f x.args
 else if x.op ≤ 8 then (if (reckR f x).2 = true then Zbh s (reckR f x).1 else endM s 3 0)
 else if x.op = 9 then (if 16 ≤ f.regs.getD x.a.toNat 0 then endM s 4 0 else Zbh s (goOn (frW f x.dst (s.cells.getD (cellN f x) 0))))
 else if x.op = 10 then (if 16 ≤ f.regs.getD x.a.toNat 0 then endM s 4 0 else Zbh { s with cells := s.cells.set (cellN f x) (f.regs.getD x.b.toNat 0) } (goOn f))
 else if x.op = 12 then Zbh { s with events := s.events ++ [f.regs.getD x.a.toNat 0] } (goOn f)
 else if x.op = 13 then (if s.inputs.length = 0 then endM s 6 0 else Zbh { s with inputs := s.inputs.drop 1, events := s.events ++ [s.inputs.getD 0 0 + 65536] } (goOn (frW f x.dst (s.inputs.getD 0 0))))
 else Zbh s (goOn f)
def evM (s : Mach) (e : Int) : Mach := { s with events := s.events ++ [e] }
theorem appI {k z : Nat} {l : List Int} {v v' : Int} {F : Nat → List AV} (hk : k = l.length) (hz : z < l.length + 1) (hv : v' = v) (hF : ∀ i, i < l.length → F i = [iv (l.getD i 0)]) : appR k F (fun i => Zfd 1 [iv v'] (0 + i)) z = [iv ((l ++ [v]).getD z 0)] := by
 subst hk; subst hv
 unfold appR
 by_cases e : z < l.length
 ·rw [show Nat.blt z l.length = true from by rw [Nat.blt_eq]; exact e, cond_true, hF z e]
  simp [List.getD_eq_getElem?_getD, List.getElem?_append_left e]
 ·have e2 : z = l.length := by omega
  subst e2
  rw [show Nat.blt l.length l.length = false from by rw [Bool.eq_false_iff]; intro h; rw [Nat.blt_eq] at h; omega, cond_false, Nat.sub_self]
  have e4 : (l ++ [v']).getD l.length 0 = v' := by simp [List.getD_eq_getElem?_getD]
  rw [e4]; rfl
abbrev FCins (m : Zak) (s : Mach) (f : Za5) (x : Ins) : Prop := FC Tryz.prog 106 [.agg (Zao m), .agg (Zar s), .agg (Zay f), .agg (Zax x)] (.agg (Zar (insM m s f x)))
theorem c_ins11 (m : Zak) (s : Mach) (f : Za5) (x : Ins) (ho : x.op = 11) (hc : FC Tryz.prog 108 [.agg (Zao m), .agg (Zar s), iv x.f, ints x.args] (.agg (Zar (Zb1 m s x.f x.args)))) : FCins m s f x := by
 refine Zan tok Tryz.func106 rfl (by decide +kernel) (nB rfl) ?_
 rw [show insM m s f x = Zb1 m s x.f x.args from if_pos ho]
 (repeat' ((fail_if_success (show Rg 2)); (fail_if_success (show Rg 3)); first | refine Zad ?_ | (refine Zaa tok (by rfl) ?_; conv => whnf) | (refine Zag ?_; conv => whnf) | refine Zaf rfl (fun hb => ?_) (fun hb => ?_)))
 ·(repeat' (refine Zaa tok (by rfl) ?_; conv => whnf))
  refine .inl ⟨_, _, _, uG (QC.fc hc rfl), ?_⟩
  conv => whnf
  (repeat' (refine Zah ?_; conv => whnf))
  exact ⟨_, rfl, Rel.agg (Rels.imm rfl)⟩
 ·exfalso; rw [ho] at hb; cases hb
set_option maxHeartbeats 1000000 in
theorem c_ins8 (m : Zak) (s : Mach) (f : Za5) (x : Ins) (hs : 0 < s.stack.length) (h8 : x.op ≤ 8) (hc : FC Tryz.prog 149 [.agg (Zay f), .agg (Zax x)] (.tup [.agg (Zay (reckR f x).1), .bool (reckR f x).2])) : FCins m s f x := by
 refine Zan tok Tryz.func106 rfl (by decide +kernel) (nB rfl) ?_
 rw [show insM m s f x = (if (reckR f x).2 = true then Zbh s (reckR f x).1 else endM s 3 0) from (if_neg (by omega)).trans (if_pos h8)]
 (repeat' ((fail_if_success (show Rg 2)); (fail_if_success (show Rg 4)); (fail_if_success (show Rg 8)); first | refine Zad ?_ | (refine Zaa tok (by rfl) ?_; conv => whnf) | (refine Zag ?_; conv => whnf) | refine Zaf rfl (fun hb => ?_) (fun hb => ?_)))
 ·exfalso; simp at hb; omega
 ·(repeat' (refine Zaa tok (by rfl) ?_; conv => whnf))
  refine .inl ⟨_, _, _, uG (QC.fc hc rfl), ?_⟩
  conv => whnf
  (repeat' first | refine Zad ?_ | (refine Zaa tok (by rfl) ?_; conv => whnf) | (refine Zag ?_; conv => whnf) | refine Zaf rfl (fun hb => ?_) (fun hb => ?_))
  ·rw [if_neg (by simpa using hb)]
   refine .inl ⟨_, _, _, uG (QC.fc (c_ended s 3 0) rfl), ?_⟩
   conv => whnf
   (repeat' (refine Zah ?_; conv => whnf))
   exact ⟨_, rfl, Rel.agg (Rels.imm rfl)⟩
  ·rw [if_pos (by simpa using hb)]
   refine .inl ⟨_, _, _, uG (QC.fc (Zet s (reckR f x).1 hs) rfl), ?_⟩
   conv => whnf
   (repeat' (refine Zah ?_; conv => whnf))
   exact ⟨_, rfl, Rel.agg (Rels.imm rfl)⟩
 ·exfalso; simp at hb; omega
set_option maxHeartbeats 2000000 in
theorem c_ins12 (m : Zak) (s : Mach) (f : Za5) (x : Ins) (hs : 0 < s.stack.length) (ho : x.op = 12) (ha : 0 ≤ x.a ∧ x.a < f.regs.length) (h0 : 0 ≤ f.at_) (h1 : f.at_ < 1000000) (he : s.events.length < 1000000) : FCins m s f x := by
 refine Zan tok Tryz.func106 rfl (by decide +kernel) (nB rfl) ?_
 refine Zap 2 (fun hl => ?_)
 have hreg : 0 ≤ f.regs.getD x.a.toNat 0 ∧ f.regs.getD x.a.toNat 0 ≤ 65535 := (hl.2.2.2.1.2 x.a.toNat (by omega)).1
 clear hl
 have hmx : mL = 4294967296 := rfl
 (repeat' ((fail_if_success (show Rg 2)); (fail_if_success (show Rg 4)); (fail_if_success (show Rg 9)); (fail_if_success (show Rg 16)); (fail_if_success (show Rg 18)); (fail_if_success (show Rg 23)); first | refine Zad ?_ | (refine Zaa tok (by rfl) ?_; conv => whnf) | (refine Zag ?_; conv => whnf) | refine Zaf rfl (fun hb => ?_) (fun hb => ?_)))
 all_goals (try (exfalso; rw [ho] at hb; cases hb; done))
 ·have hM : insM m s f x = Zbh (evM s (f.regs.getD x.a.toNat 0)) (goOn f) := by
   unfold insM
   rw [if_neg (by omega), if_neg (by omega), if_neg (by omega), if_neg (by omega), if_pos ho]; rfl
  rw [hM]
  refine AWp_soft tok mix (by rfl) [1, 2, 4, 5, 6, 7, 8, 9, 10, 13] 30 (by rfl) (by rfl) (by rfl) ?_
  conv => whnf
  repeat' first
   | (refine uA ?_ ?_; rotate_left; (conv => whnf); rotate_right)
   | (guard_target = And _ _; refine @And.intro (gOp _ _ _ _ _ _ _ _ _) _ (by (conv => whnf); exact ⟨rfl, rfl⟩) ?_; conv => whnf)
   | (guard_target = And _ _; refine And.intro ?_ ?_ <;> (conv => whnf))
  all_goals (try ((guard_target = Zac _ _ _ _); refine Zae ?_; (first | refine And.intro (Zcy rfl ?_) ?_ | refine And.intro Zcx ?_ | skip); (all_goals (try simp only [Zac, kZ, kA, kB, mL, Zab] at *)); all_goals omega))
  all_goals (try rfl)
  all_goals
   refine Zaz (Weak.fam (L := []) (tl := [(4, .bp (4, 0, 0) 0), (5, .bp (5, 0, 0) 0), (6, .bp (6, 0, 0) 0), (7, .bp (7, 0, 0) 0), (8, .bp (8, 0, 0) 0)]) (hl := [((4, 0, 0), Zam (Zao m)), ((5, 0, 0), Zam (Zar (evM s (f.regs.getD x.a.toNat 0)))), ((6, 0, 0), Zam (Zay f)), ((7, 0, 0), Zam (Zax x)), ((8, 0, 0), Zam Zcu)]) (F := noH) [] rfl (fun c hc => by cases hc) ?_ ?_ noF (fun i hi => by cases hi)) ?_
   ·exact .cons (.bp rfl rfl) (.cons (.bp rfl rfl) (.cons (.bp rfl rfl) (.cons (.bp rfl rfl) (.cons (.bp rfl rfl) .nil))))
   ·refine .old rfl rfl (GB.one (GVs.imm rfl) (fun _ => rfl)) (.old rfl rfl (GB.one (.i (.i (.i (.i (.i (.i (.i (.i (.i (.i (.i (.i (.i (.i (.i (.i (.i (.i (.cons (.frz (hd_no rfl) rfl (Nat.le_of_eq (Nat.zero_add _)) ?_ (fun z hz => GVs.eqI rfl ?_) (fun _ _ => rfl)) (.i (.i .nil))))))))))))))))))))) (fun _ => rfl)) (.old rfl rfl (GB.one (GVs.imm rfl) (fun _ => rfl)) (.old rfl rfl (GB.one (GVs.imm rfl) (fun _ => rfl)) (.old rfl rfl (GB.one (GVs.imm rfl) (fun _ => rfl)) .nil))))
    ·show 0 + s.events.length + 1 = (s.events ++ [_]).length
     simp
    ·have hz2 : z < s.events.length + 1 := by rw [Nat.zero_add] at hz; exact hz
     rw [show 0 + z = z from Nat.zero_add z]
     simp only [allB, Zch, Bool.true_and, Bool.and_true, Bool.and_self, cond_true]
     exact appI (Nat.zero_add _) hz2 (Zal (by omega) (by omega)) (fun i hi => rfl)
   (repeat' ((fail_if_success (show Rg 18)); (fail_if_success (show Rg 23)); first | refine Zad ?_ | (refine Zaa tok (by rfl) ?_; conv => whnf) | (refine Zag ?_; conv => whnf) | refine Zaf rfl (fun hb => ?_) (fun hb => ?_)))
   ·exfalso; rw [ho] at hb; cases hb
   clear hb
   (repeat' first | refine Zad ?_ | (refine Zaa tok (by rfl) ?_; conv => whnf))
   rw [show goOn f = { f with at_ := IntKind.i64.wrap (f.at_ + 1) } from by unfold goOn; rw [Zal (by omega) (by omega)]]
   refine .inl ⟨_, _, _, uG (QC.fc (Zet (evM s (f.regs.getD x.a.toNat 0)) { f with at_ := IntKind.i64.wrap (f.at_ + 1) } hs) rfl), ?_⟩
   conv => whnf
   (repeat' (refine Zah ?_; conv => whnf))
   exact ⟨_, rfl, Rel.agg (Rels.imm rfl)⟩
 all_goals (exfalso; simp_all)
set_option linter.unusedSimpArgs false
def inM (s : Mach) : Mach := { evM s (s.inputs.getD 0 0 + 65536) with inputs := s.inputs.drop 1 }
theorem wk_drop {l : List Int} {n : Nat} {F : Nat → List AV} (hl : ¬ l.length = 0) (hn : n = l.length - 1) (hF : ∀ i, F i = [.int .u16 (l.getD (1 + i) 0)]) : Wk (.sl 1 n F) (u16s (l.drop 1)) := by
 subst hn
 refine .sl (by simp) (fun i hi => ?_)
 rw [hF i, List.getD_eq_getElem?_getD, List.getD_eq_getElem?_getD, List.getElem?_drop]
set_option maxHeartbeats 4000000 in
theorem c_ins13 (m : Zak) (s : Mach) (f : Za5) (x : Ins) (hs : 0 < s.stack.length) (ho : x.op = 13) (hd : 0 ≤ x.dst ∧ x.dst < f.regs.length) (h0 : 0 ≤ f.at_) (h1 : f.at_ < 1000000) (he : s.events.length < 1000000) (hin : ∀ i, i < s.inputs.length → 0 ≤ s.inputs.getD i 0 ∧ s.inputs.getD i 0 ≤ 65535) (hil : s.inputs.length < 1000000) : FCins m s f x := by
 refine Zan tok Tryz.func106 rfl (by decide +kernel) (nB rfl) ?_
 have hmx : mL = 4294967296 := rfl
 have hM : insM m s f x = if s.inputs.length = 0 then endM s 6 0 else Zbh (inM s) (goOn (frW f x.dst (s.inputs.getD 0 0))) := by
  unfold insM
  rw [if_neg (by omega), if_neg (by omega), if_neg (by omega), if_neg (by omega), if_neg (by omega), if_pos ho]; rfl
 rw [hM]
 (repeat' ((fail_if_success (show Rg 2)); (fail_if_success (show Rg 4)); (fail_if_success (show Rg 9)); (fail_if_success (show Rg 16)); (fail_if_success (show Rg 18)); (fail_if_success (show Rg 23)); first | refine Zad ?_ | (refine Zaa tok (by rfl) ?_; conv => whnf) | (refine Zag ?_; conv => whnf) | refine Zaf rfl (fun hb => ?_) (fun hb => ?_)))
 all_goals (try (exfalso; simp_all; done))
 (repeat' ((fail_if_success (show Rg 19)); (fail_if_success (show Rg 20)); first | refine Zad ?_ | (refine Zaa tok (by rfl) ?_; conv => whnf) | (refine Zag ?_; conv => whnf) | refine Zaf rfl (fun hb => ?_) (fun hb => ?_)))
 ·have hz0 : s.inputs.length = 0 := by simp only [decide_eq_true_eq] at hb; omega
  rw [if_pos hz0]
  (repeat' (refine Zaa tok (by rfl) ?_; conv => whnf))
  refine .inl ⟨_, _, _, uG (QC.fc (c_ended s 6 0) rfl), ?_⟩
  conv => whnf
  (repeat' (refine Zah ?_; conv => whnf))
  exact ⟨_, rfl, Rel.agg (Rels.imm rfl)⟩
 have hz0 : ¬ s.inputs.length = 0 := by simp only [decide_eq_false_iff_not] at hb; omega
 clear hb
 rw [if_neg hz0]
 have hw := hin 0 (by omega)
 ((repeat' first | (refine Za2 tok mix (by rfl) ?_; conv => whnf) | (refine uA ?_ ?_; rotate_left; (conv => whnf); rotate_right)); all_goals (try ((guard_target = Zac _ _ _ _); refine Zae ?_; (all_goals (try simp only [Zac, kZ, kA, kB, mL, Zab] at *)); all_goals omega)))
 refine .inl ⟨_, _, _, uG (QC.fc (c_With f x.dst (s.inputs.getD 0 0) hd.1 hd.2) rfl), ?_⟩
 conv => whnf
 (repeat' ((fail_if_success (show Rg 21)); refine Zad ?_))
 refine AWp_soft tok mix (by rfl) [1, 2, 4, 5, 6, 7, 8, 9, 12] 30 (by rfl) (by rfl) (by rfl) ?_
 conv => whnf
 repeat' first
  | (refine uA ?_ ?_; rotate_left; (conv => whnf); rotate_right)
  | (guard_target = And _ _; refine @And.intro (gOp _ _ _ _ _ _ _ _ _) _ (by (conv => whnf); exact ⟨rfl, rfl⟩) ?_; conv => whnf)
  | (guard_target = And _ _; refine And.intro ?_ ?_ <;> (conv => whnf))
 all_goals (try ((guard_target = Zac _ _ _ _); refine Zae ?_; (first | refine And.intro (Zcy rfl ?_) ?_ | refine And.intro Zcx ?_ | skip); (all_goals (try simp only [Zac, kZ, kA, kB, mL, Zab] at *)); all_goals omega))
 all_goals (try rfl)
 all_goals
  refine Zaz (Weak.fam (L := []) (tl := [(4, .bp (4, 0, 0) 0), (5, .bp (5, 0, 0) 0), (6, .bp (6, 0, 0) 0), (7, .bp (7, 0, 0) 0), (8, .bp (8, 0, 0) 0)]) (hl := [((4, 0, 0), Zam (Zao m)), ((5, 0, 0), Zam (Zar (evM s (s.inputs.getD 0 0 + 65536)))), ((6, 0, 0), Zam (Zay (frW f x.dst (s.inputs.getD 0 0)))), ((7, 0, 0), Zam (Zax x)), ((8, 0, 0), Zam Zcu)]) (F := noH) [] rfl (fun c hc => by cases hc) ?_ ?_ noF (fun i hi => by cases hi)) ?_
  ·exact .cons (.bp rfl rfl) (.cons (.bp rfl rfl) (.cons (.bp rfl rfl) (.cons (.bp rfl rfl) (.cons (.bp rfl rfl) .nil))))
  ·refine .old rfl rfl (GB.one (GVs.imm rfl) (fun _ => rfl)) (.old rfl rfl (GB.one (.i (.i (.i (.i (.i (.i (.i (.i (.i (.i (.i (.i (.i (.i (.i (.i (.i (.i (.cons (.frz (hd_no rfl) rfl (Nat.le_of_eq (Nat.zero_add _)) ?_ (fun z hz => GVs.eqI rfl ?_) (fun _ _ => rfl)) (.i (.i .nil))))))))))))))))))))) (fun _ => rfl)) (.old rfl rfl (GB.one (GVs.imm rfl) (fun _ => rfl)) (.old rfl rfl (GB.one (GVs.imm rfl) (fun _ => rfl)) (.old rfl rfl (GB.one (GVs.imm rfl) (fun _ => rfl)) .nil))))
   ·show 0 + s.events.length + 1 = (s.events ++ [_]).length
    simp
   ·have hz2 : z < s.events.length + 1 := by rw [Nat.zero_add] at hz; exact hz
    rw [show 0 + z = z from Nat.zero_add z]
    simp only [allB, Zch, Bool.true_and, Bool.and_true, Bool.and_self, cond_true]
    exact appI (Nat.zero_add _) hz2 (by
     show IntKind.i64.wrap (IntKind.i64.wrap (s.inputs.getD 0 0) + 65536) = _
     rw [Zal (x := s.inputs.getD 0 0) (by omega) (by omega), Zal (by omega) (by omega)]) (fun i hi => rfl)
  have hz3 : (evM s (s.inputs.getD 0 0 + 65536)).inputs.length = s.inputs.length := rfl
  have hz4 : (evM s (s.inputs.getD 0 0 + 65536)).inputs = s.inputs := rfl
  ((repeat' ((fail_if_success (show Rg 23)); first | refine Zad ?_ | (refine Zaa tok (by rfl) ?_; conv => whnf) | (refine uA ?_ ?_; rotate_left; (conv => whnf); rotate_right))); all_goals (try ((guard_target = Zac _ _ _ _); refine Zae ?_; (all_goals (try simp only [Zac, kZ, kA, kB, mL, Zab] at *)); all_goals omega)))
  refine Zaz (Weak.list (tl := [(4, .bp (4, 0, 0) 0), (5, .bp (5, 0, 0) 0), (6, .bp (6, 0, 0) 0), (7, .bp (7, 0, 0) 0), (8, .bp (8, 0, 0) 0)]) [((4, 0, 0), .old (4, 0, 0), Zam (Zao m)), ((5, 0, 0), .old (5, 0, 0), Zam (Zar (inM s))), ((6, 0, 0), .old (6, 0, 0), Zam (Zay (frW f x.dst (s.inputs.getD 0 0)))), ((7, 0, 0), .old (7, 0, 0), Zam (Zax x)), ((8, 0, 0), .old (8, 0, 0), Zam Zcu)] rfl (by rfl) ?_ (.old rfl (BLe.refl _) (.old rfl (BLe.rowW (Nat.le_refl _) (ltS (.cons .refl (.cons .refl (.cons .refl (.cons .refl (.cons .refl (.cons .refl (.cons .refl (.cons .refl (.cons .refl (.cons .refl (.cons .refl (.cons .refl (.cons .refl (.cons .refl (.cons .refl (.cons .refl (.cons .refl (.cons (wk_drop hz0 (by simp [evM]) (fun i => rfl)) (.cons .refl (.cons .refl (.cons .refl .nil))))))))))))))))))))) lt0)) (.old rfl (BLe.refl _) (.old rfl (BLe.refl _) (.old rfl (BLe.refl _) .nil)))))) ?_
  ·((repeat' first | exact TLes.nil | refine tE rfl ?_); skip)
  (repeat' first | refine Zad ?_ | (refine Zaa tok (by rfl) ?_; conv => whnf))
  rw [show goOn (frW f x.dst (s.inputs.getD 0 0)) = { frW f x.dst (s.inputs.getD 0 0) with at_ := IntKind.i64.wrap (f.at_ + 1) } from by unfold goOn; rw [show (frW f x.dst (s.inputs.getD 0 0)).at_ = f.at_ from rfl, Zal (by omega) (by omega)]]
  refine .inl ⟨_, _, _, uG (QC.fc (Zet (inM s) { frW f x.dst (s.inputs.getD 0 0) with at_ := IntKind.i64.wrap (f.at_ + 1) } hs) rfl), ?_⟩
  conv => whnf
  (repeat' (refine Zah ?_; conv => whnf))
  exact ⟨_, rfl, Rel.agg (Rels.imm rfl)⟩
end Go.Proofs.YtoelbgjpmpoolaaGreat
namespace Go.Proofs.YtoelbgjpmpoolaaGreat
open Go Dv
set_option maxRecDepth 10000
set_option linter.unusedSimpArgs false
set_option maxHeartbeats 4000000 in
theorem c_ins9 (m : Zak) (s : Mach) (f : Za5) (x : Ins) (hs : 0 < s.stack.length) (ho : x.op = 9) (hd : 0 ≤ x.dst ∧ x.dst < f.regs.length) (ha : 0 ≤ x.a ∧ x.a < f.regs.length) (h0 : 0 ≤ f.at_) (h1 : f.at_ < 1000000) : FCins m s f x := by
 refine Zan tok Tryz.func106 rfl (by decide +kernel) (nB rfl) ?_
 refine Zap 2 (fun hl => ?_)
 have hreg : 0 ≤ f.regs.getD x.a.toNat 0 ∧ f.regs.getD x.a.toNat 0 ≤ 65535 := (hl.2.2.2.1.2 x.a.toNat (by omega)).1
 clear hl
 have hmx : mL = 4294967296 := rfl
 have hgen : ∃ n, f.regs.getD x.a.toNat 0 = n := ⟨_, rfl⟩
 obtain ⟨n, hn⟩ := hgen
 have hM : insM m s f x = if 16 ≤ n then endM s 4 0 else Zbh s (goOn (frW f x.dst (s.cells.getD n.toNat 0))) := by
  unfold insM cellN
  rw [if_neg (by omega), if_neg (by omega), if_pos ho, hn]
 rw [hM]
 rw [hn] at hreg
 have hw : IntKind.i64.wrap n = n := Zal (by omega) (by omega)
 (repeat' ((fail_if_success (show Rg 2)); (fail_if_success (show Rg 4)); (fail_if_success (show Rg 9)); (fail_if_success (show Rg 15)); first | refine Zad ?_ | (refine Zaa tok (by rfl) ?_; conv => whnf) | (refine Zag ?_; conv => whnf) | refine Zaf rfl (fun hb => ?_) (fun hb => ?_)))
 all_goals (try (exfalso; simp_all; done))
 ((repeat' ((fail_if_success (show Rg 11)); (fail_if_success (show Rg 12)); first | refine Zad ?_ | (refine Zaa tok (by rfl) ?_; conv => whnf) | (refine Zag ?_; conv => whnf) | refine Zaf rfl (fun hb => ?_) (fun hb => ?_) | (refine uA ?_ ?_; rotate_left; (conv => whnf); rotate_right))); all_goals (try ((guard_target = Zac _ _ _ _); refine Zae ?_; (all_goals (try simp only [Zac, kZ, kA, kB, mL, Zab] at *)); all_goals omega)))
 ·have h16 : 16 ≤ n := by rw [hn, hw] at hb; simpa using hb
  rw [if_pos h16]
  (repeat' (refine Zaa tok (by rfl) ?_; conv => whnf))
  refine .inl ⟨_, _, _, uG (QC.fc (c_ended s 4 0) rfl), ?_⟩
  conv => whnf
  (repeat' (refine Zah ?_; conv => whnf))
  exact ⟨_, rfl, Rel.agg (Rels.imm rfl)⟩
 have h16 : ¬ 16 ≤ n := by rw [hn, hw] at hb; simpa using hb
 clear hb
 rw [if_neg h16]
 have hn' : IntKind.i64.wrap (f.regs.getD x.a.toNat 0) = n := by rw [hn]; exact hw
 refine Zaz (Weak.list (tl := [(4, .bp (4, 0, 0) 0), (5, .bp (5, 0, 0) 0), (6, .bp (6, 0, 0) 0), (7, .bp (7, 0, 0) 0), (8, .bp (8, 0, 0) 0), (11, iv n)]) [((4, 0, 0), .old (4, 0, 0), Zam (Zao m)), ((5, 0, 0), .old (5, 0, 0), Zam (Zar s)), ((6, 0, 0), .old (6, 0, 0), Zam (Zay f)), ((7, 0, 0), .old (7, 0, 0), Zam (Zax x)), ((8, 0, 0), .old (8, 0, 0), Zam Zcu)] rfl (by rfl) ?_ (.old rfl (BLe.refl _) (.old rfl (BLe.refl _) (.old rfl (BLe.refl _) (.old rfl (BLe.refl _) (.old rfl (BLe.refl _) .nil)))))) ?_
 ·exact .cons (.eq rfl) (.cons (.eq rfl) (.cons (.eq rfl) (.cons (.eq rfl) (.cons (.eq rfl) (.cons (.int hn') .nil)))))
 (repeat' ((fail_if_success (show Rg 13)); (fail_if_success (show Rg 14)); first | (refine Zaa tok (by rfl) ?_; conv => whnf) | refine Zaf rfl (fun hb => ?_) (fun hb => ?_)))
 ·clear hb
  have hwi : ∀ (k : Nat) (l : List AV), l = Zay { frW f x.dst (s.cells.getD k 0) with at_ := IntKind.i64.wrap (f.at_ + 1) } → FC Tryz.prog 110 [.agg (Zar s), .agg l] (.agg (Zar (Zbh s (goOn (frW f x.dst (s.cells.getD k 0)))))) := fun k l e => by
   rw [e, show goOn (frW f x.dst (s.cells.getD k 0)) = { frW f x.dst (s.cells.getD k 0) with at_ := IntKind.i64.wrap (f.at_ + 1) } from by unfold goOn; rw [show (frW f x.dst (s.cells.getD k 0)).at_ = f.at_ from rfl, Zal (by omega) (by omega)]]
   exact Zet s _ hs
  clear hM hn hw hn'
  rcases (show n = 0 ∨ n = 1 ∨ n = 2 ∨ n = 3 ∨ n = 4 ∨ n = 5 ∨ n = 6 ∨ n = 7 ∨ n = 8 ∨ n = 9 ∨ n = 10 ∨ n = 11 ∨ n = 12 ∨ n = 13 ∨ n = 14 ∨ n = 15 by omega) with e | e | e | e | e | e | e | e | e | e | e | e | e | e | e | e
  all_goals subst e
  all_goals ((repeat' first | (refine Za2 tok mix (by rfl) ?_; conv => whnf) | (refine uA ?_ ?_; rotate_left; (conv => whnf); rotate_right)); all_goals (try ((guard_target = Zac _ _ _ _); refine Zae ?_; (all_goals (try simp only [Zac, kZ, kA, kB, mL, Zab] at *)); all_goals omega)))
  all_goals refine .inl ⟨_, _, _, uG (QC.fc (c_With f x.dst _ hd.1 hd.2) rfl), ?_⟩
  all_goals (conv => whnf)
  all_goals (repeat' ((fail_if_success (show Rg 16)); (fail_if_success (show Rg 18)); (fail_if_success (show Rg 23)); first | refine Zad ?_ | (refine Zaa tok (by rfl) ?_; conv => whnf) | (refine Zag ?_; conv => whnf) | refine Zaf rfl (fun hb => ?_) (fun hb => ?_)))
  all_goals (try (exfalso; rw [ho] at hb; cases hb; done))
  all_goals clear hb
  all_goals (repeat' first | refine Zad ?_ | (refine Zaa tok (by rfl) ?_; conv => whnf))
  all_goals refine .inl ⟨_, _, _, uG (QC.fc (hwi _ _ rfl) rfl), ?_⟩
  all_goals (conv => whnf)
  all_goals (repeat' (refine Zah ?_; conv => whnf))
  all_goals exact ⟨_, rfl, Rel.agg (Rels.imm rfl)⟩
 ·exfalso; rw [ho] at hb; cases hb
end Go.Proofs.YtoelbgjpmpoolaaGreat
namespace Go.Proofs.YtoelbgjpmpoolaaGreat
open Go Dv
set_option maxRecDepth 10000
set_option linter.unusedSimpArgs false
def stM (s : Mach) (k : Nat) (v : Int) : Mach := { s with cells := s.cells.set k v }
theorem wkc {l : List Int} {v : Int} {k j : Nat} (h : k ≠ j) : Wk (cw l j) (cw (l.set k v) j) := by
 unfold cw; rw [Zcm, if_neg (fun e => h e.1)]; exact .refl
theorem wks {l : List Int} {v : Int} {k : Nat} (h : k < l.length) : Wk (.int .u16 v) (cw (l.set k v) k) := by
 unfold cw; rw [Zcm, if_pos ⟨rfl, h⟩]; exact .refl
set_option maxHeartbeats 4000000 in
theorem c_ins10 (m : Zak) (s : Mach) (f : Za5) (x : Ins) (hs : 0 < s.stack.length) (ho : x.op = 10) (hb' : 0 ≤ x.b ∧ x.b < f.regs.length) (hcl : s.cells.length = 16) (ha : 0 ≤ x.a ∧ x.a < f.regs.length) (h0 : 0 ≤ f.at_) (h1 : f.at_ < 1000000) : FCins m s f x := by
 refine Zan tok Tryz.func106 rfl (by decide +kernel) (nB rfl) ?_
 refine Zap 2 (fun hl => ?_)
 have hreg : 0 ≤ f.regs.getD x.a.toNat 0 ∧ f.regs.getD x.a.toNat 0 ≤ 65535 := (hl.2.2.2.1.2 x.a.toNat (by omega)).1
 clear hl
 have hmx : mL = 4294967296 := rfl
 have hgen : ∃ n, f.regs.getD x.a.toNat 0 = n := ⟨_, rfl⟩
 obtain ⟨n, hn⟩ := hgen
 have hM : insM m s f x = if 16 ≤ n then endM s 4 0 else Zbh (stM s n.toNat (f.regs.getD x.b.toNat 0)) (goOn f) := by
  unfold insM cellN
  rw [if_neg (by omega), if_neg (by omega), if_neg (by omega), if_pos ho, hn]; rfl
 rw [hM]
 rw [hn] at hreg
 have hw : IntKind.i64.wrap n = n := Zal (by omega) (by omega)
 (repeat' ((fail_if_success (show Rg 2)); (fail_if_success (show Rg 4)); (fail_if_success (show Rg 9)); (fail_if_success (show Rg 15)); first | refine Zad ?_ | (refine Zaa tok (by rfl) ?_; conv => whnf) | (refine Zag ?_; conv => whnf) | refine Zaf rfl (fun hb => ?_) (fun hb => ?_)))
 all_goals (try (exfalso; simp_all; done))
 ((repeat' ((fail_if_success (show Rg 11)); (fail_if_success (show Rg 12)); first | refine Zad ?_ | (refine Zaa tok (by rfl) ?_; conv => whnf) | (refine Zag ?_; conv => whnf) | refine Zaf rfl (fun hb => ?_) (fun hb => ?_) | (refine uA ?_ ?_; rotate_left; (conv => whnf); rotate_right))); all_goals (try ((guard_target = Zac _ _ _ _); refine Zae ?_; (all_goals (try simp only [Zac, kZ, kA, kB, mL, Zab] at *)); all_goals omega)))
 ·have h16 : 16 ≤ n := by rw [hn, hw] at hb; simpa using hb
  rw [if_pos h16]
  (repeat' (refine Zaa tok (by rfl) ?_; conv => whnf))
  refine .inl ⟨_, _, _, uG (QC.fc (c_ended s 4 0) rfl), ?_⟩
  conv => whnf
  (repeat' (refine Zah ?_; conv => whnf))
  exact ⟨_, rfl, Rel.agg (Rels.imm rfl)⟩
 have h16 : ¬ 16 ≤ n := by rw [hn, hw] at hb; simpa using hb
 clear hb
 rw [if_neg h16]
 have hn' : IntKind.i64.wrap (f.regs.getD x.a.toNat 0) = n := by rw [hn]; exact hw
 refine Zaz (Weak.list (tl := [(4, .bp (4, 0, 0) 0), (5, .bp (5, 0, 0) 0), (6, .bp (6, 0, 0) 0), (7, .bp (7, 0, 0) 0), (8, .bp (8, 0, 0) 0), (11, iv n)]) [((4, 0, 0), .old (4, 0, 0), Zam (Zao m)), ((5, 0, 0), .old (5, 0, 0), Zam (Zar s)), ((6, 0, 0), .old (6, 0, 0), Zam (Zay f)), ((7, 0, 0), .old (7, 0, 0), Zam (Zax x)), ((8, 0, 0), .old (8, 0, 0), Zam Zcu)] rfl (by rfl) ?_ (.old rfl (BLe.refl _) (.old rfl (BLe.refl _) (.old rfl (BLe.refl _) (.old rfl (BLe.refl _) (.old rfl (BLe.refl _) .nil)))))) ?_
 ·exact .cons (.eq rfl) (.cons (.eq rfl) (.cons (.eq rfl) (.cons (.eq rfl) (.cons (.eq rfl) (.cons (.int hn') .nil)))))
 (repeat' ((fail_if_success (show Rg 13)); (fail_if_success (show Rg 14)); first | (refine Zaa tok (by rfl) ?_; conv => whnf) | refine Zaf rfl (fun hb => ?_) (fun hb => ?_)))
 ·exfalso; rw [ho] at hb; cases hb
 ·clear hb
  have hwi : ∀ (k : Nat), FC Tryz.prog 110 [.agg (Zar (stM s k (f.regs.getD x.b.toNat 0))), .agg (Zay { f with at_ := IntKind.i64.wrap (f.at_ + 1) })] (.agg (Zar (Zbh (stM s k (f.regs.getD x.b.toNat 0)) (goOn f)))) := fun k => by
   rw [show goOn f = { f with at_ := IntKind.i64.wrap (f.at_ + 1) } from by unfold goOn; rw [Zal (by omega) (by omega)]]
   exact Zet _ _ hs
  clear hM hw hn'
  rcases (show n = 0 ∨ n = 1 ∨ n = 2 ∨ n = 3 ∨ n = 4 ∨ n = 5 ∨ n = 6 ∨ n = 7 ∨ n = 8 ∨ n = 9 ∨ n = 10 ∨ n = 11 ∨ n = 12 ∨ n = 13 ∨ n = 14 ∨ n = 15 by omega) with e | e | e | e | e | e | e | e | e | e | e | e | e | e | e | e
  all_goals subst e
  all_goals ((repeat' ((fail_if_success (show Rg 15)); first | refine Zad ?_ | (refine Zaa tok (by rfl) ?_; conv => whnf) | (refine uA ?_ ?_; rotate_left; (conv => whnf); rotate_right))); all_goals (try ((guard_target = Zac _ _ _ _); refine Zae ?_; (all_goals (try simp only [Zac, kZ, kA, kB, mL, Zab] at *)); all_goals omega)))
  ·refine Zaz (Weak.list (tl := [(4, .bp (4, 0, 0) 0), (5, .bp (5, 0, 0) 0), (6, .bp (6, 0, 0) 0), (7, .bp (7, 0, 0) 0), (8, .bp (8, 0, 0) 0)]) [((4, 0, 0), .old (4, 0, 0), Zam (Zao m)), ((5, 0, 0), .old (5, 0, 0), Zam (Zar (stM s 0 (f.regs.getD x.b.toNat 0)))), ((6, 0, 0), .old (6, 0, 0), Zam (Zay f)), ((7, 0, 0), .old (7, 0, 0), Zam (Zax x)), ((8, 0, 0), .old (8, 0, 0), Zam Zcu)] rfl (by rfl) ?_ (.old rfl (BLe.refl _) (.old rfl (BLe.rowW (Nat.le_refl _) (ltS (.cons .refl (.cons (wks (by omega)) (.cons (wkc (by decide)) (.cons (wkc (by decide)) (.cons (wkc (by decide)) (.cons (wkc (by decide)) (.cons (wkc (by decide)) (.cons (wkc (by decide)) (.cons (wkc (by decide)) (.cons (wkc (by decide)) (.cons (wkc (by decide)) (.cons (wkc (by decide)) (.cons (wkc (by decide)) (.cons (wkc (by decide)) (.cons (wkc (by decide)) (.cons (wkc (by decide)) (.cons (wkc (by decide)) (Wks.refl _)))))))))))))))))) lt0)) (.old rfl (BLe.refl _) (.old rfl (BLe.refl _) (.old rfl (BLe.refl _) .nil)))))) ?_
   ·((repeat' first | exact TLes.nil | refine tE rfl ?_); skip)
   (repeat' ((fail_if_success (show Rg 16)); (fail_if_success (show Rg 18)); (fail_if_success (show Rg 23)); first | refine Zad ?_ | (refine Zaa tok (by rfl) ?_; conv => whnf) | (refine Zag ?_; conv => whnf) | refine Zaf rfl (fun hb => ?_) (fun hb => ?_)))
   ·exfalso; rw [ho] at hb; cases hb
   ·exfalso; rw [ho] at hb; cases hb
   clear hb
   (repeat' first | refine Zad ?_ | (refine Zaa tok (by rfl) ?_; conv => whnf))
   refine .inl ⟨_, _, _, uG (QC.fc (hwi 0) rfl), ?_⟩
   conv => whnf
   (repeat' (refine Zah ?_; conv => whnf))
   exact ⟨_, rfl, Rel.agg (Rels.imm rfl)⟩
  ·refine Zaz (Weak.list (tl := [(4, .bp (4, 0, 0) 0), (5, .bp (5, 0, 0) 0), (6, .bp (6, 0, 0) 0), (7, .bp (7, 0, 0) 0), (8, .bp (8, 0, 0) 0)]) [((4, 0, 0), .old (4, 0, 0), Zam (Zao m)), ((5, 0, 0), .old (5, 0, 0), Zam (Zar (stM s 1 (f.regs.getD x.b.toNat 0)))), ((6, 0, 0), .old (6, 0, 0), Zam (Zay f)), ((7, 0, 0), .old (7, 0, 0), Zam (Zax x)), ((8, 0, 0), .old (8, 0, 0), Zam Zcu)] rfl (by rfl) ?_ (.old rfl (BLe.refl _) (.old rfl (BLe.rowW (Nat.le_refl _) (ltS (.cons .refl (.cons (wkc (by decide)) (.cons (wks (by omega)) (.cons (wkc (by decide)) (.cons (wkc (by decide)) (.cons (wkc (by decide)) (.cons (wkc (by decide)) (.cons (wkc (by decide)) (.cons (wkc (by decide)) (.cons (wkc (by decide)) (.cons (wkc (by decide)) (.cons (wkc (by decide)) (.cons (wkc (by decide)) (.cons (wkc (by decide)) (.cons (wkc (by decide)) (.cons (wkc (by decide)) (.cons (wkc (by decide)) (Wks.refl _)))))))))))))))))) lt0)) (.old rfl (BLe.refl _) (.old rfl (BLe.refl _) (.old rfl (BLe.refl _) .nil)))))) ?_
   ·((repeat' first | exact TLes.nil | refine tE rfl ?_); skip)
   (repeat' ((fail_if_success (show Rg 16)); (fail_if_success (show Rg 18)); (fail_if_success (show Rg 23)); first | refine Zad ?_ | (refine Zaa tok (by rfl) ?_; conv => whnf) | (refine Zag ?_; conv => whnf) | refine Zaf rfl (fun hb => ?_) (fun hb => ?_)))
   ·exfalso; rw [ho] at hb; cases hb
   ·exfalso; rw [ho] at hb; cases hb
   clear hb
   (repeat' first | refine Zad ?_ | (refine Zaa tok (by rfl) ?_; conv => whnf))
   refine .inl ⟨_, _, _, uG (QC.fc (hwi 1) rfl), ?_⟩
   conv => whnf
   (repeat' (refine Zah ?_; conv => whnf))
   exact ⟨_, rfl, Rel.agg (Rels.imm rfl)⟩
  ·refine Zaz (Weak.list (tl := [(4, .bp (4, 0, 0) 0), (5, .bp (5, 0, 0) 0), (6, .bp (6, 0, 0) 0), (7, .bp (7, 0, 0) 0), (8, .bp (8, 0, 0) 0)]) [((4, 0, 0), .old (4, 0, 0), Zam (Zao m)), ((5, 0, 0), .old (5, 0, 0), Zam (Zar (stM s 2 (f.regs.getD x.b.toNat 0)))), ((6, 0, 0), .old (6, 0, 0), Zam (Zay f)), ((7, 0, 0), .old (7, 0, 0), Zam (Zax x)), ((8, 0, 0), .old (8, 0, 0), Zam Zcu)] rfl (by rfl) ?_ (.old rfl (BLe.refl _) (.old rfl (BLe.rowW (Nat.le_refl _) (ltS (.cons .refl (.cons (wkc (by decide)) (.cons (wkc (by decide)) (.cons (wks (by omega)) (.cons (wkc (by decide)) (.cons (wkc (by decide)) (.cons (wkc (by decide)) (.cons (wkc (by decide)) (.cons (wkc (by decide)) (.cons (wkc (by decide)) (.cons (wkc (by decide)) (.cons (wkc (by decide)) (.cons (wkc (by decide)) (.cons (wkc (by decide)) (.cons (wkc (by decide)) (.cons (wkc (by decide)) (.cons (wkc (by decide)) (Wks.refl _)))))))))))))))))) lt0)) (.old rfl (BLe.refl _) (.old rfl (BLe.refl _) (.old rfl (BLe.refl _) .nil)))))) ?_
   ·((repeat' first | exact TLes.nil | refine tE rfl ?_); skip)
   (repeat' ((fail_if_success (show Rg 16)); (fail_if_success (show Rg 18)); (fail_if_success (show Rg 23)); first | refine Zad ?_ | (refine Zaa tok (by rfl) ?_; conv => whnf) | (refine Zag ?_; conv => whnf) | refine Zaf rfl (fun hb => ?_) (fun hb => ?_)))
   ·exfalso; rw [ho] at hb; cases hb
   ·exfalso; rw [ho] at hb; cases hb
   clear hb
   (repeat' first | refine Zad ?_ | (refine Zaa tok (by rfl) ?_; conv => whnf))
   refine .inl ⟨_, _, _, uG (QC.fc (hwi 2) rfl), ?_⟩
   conv => whnf
   (repeat' (refine Zah ?_; conv => whnf))
   exact ⟨_, rfl, Rel.agg (Rels.imm rfl)⟩
  ·refine Zaz (Weak.list (tl := [(4, .bp (4, 0, 0) 0), (5, .bp (5, 0, 0) 0), (6, .bp (6, 0, 0) 0), (7, .bp (7, 0, 0) 0), (8, .bp (8, 0, 0) 0)]) [((4, 0, 0), .old (4, 0, 0), Zam (Zao m)), ((5, 0, 0), .old (5, 0, 0), Zam (Zar (stM s 3 (f.regs.getD x.b.toNat 0)))), ((6, 0, 0), .old (6, 0, 0), Zam (Zay f)), ((7, 0, 0), .old (7, 0, 0), Zam (Zax x)), ((8, 0, 0), .old (8, 0, 0), Zam Zcu)] rfl (by rfl) ?_ (.old rfl (BLe.refl _) (.old rfl (BLe.rowW (Nat.le_refl _) (ltS (.cons .refl (.cons (wkc (by decide)) (.cons (wkc (by decide)) (.cons (wkc (by decide)) (.cons (wks (by omega)) (.cons (wkc (by decide)) (.cons (wkc (by decide)) (.cons (wkc (by decide)) (.cons (wkc (by decide)) (.cons (wkc (by decide)) (.cons (wkc (by decide)) (.cons (wkc (by decide)) (.cons (wkc (by decide)) (.cons (wkc (by decide)) (.cons (wkc (by decide)) (.cons (wkc (by decide)) (.cons (wkc (by decide)) (Wks.refl _)))))))))))))))))) lt0)) (.old rfl (BLe.refl _) (.old rfl (BLe.refl _) (.old rfl (BLe.refl _) .nil)))))) ?_
   ·((repeat' first | exact TLes.nil | refine tE rfl ?_); skip)
   (repeat' ((fail_if_success (show Rg 16)); (fail_if_success (show Rg 18)); (fail_if_success (show Rg 23)); first | refine Zad ?_ | (refine Zaa tok (by rfl) ?_; conv => whnf) | (refine Zag ?_; conv => whnf) | refine Zaf rfl (fun hb => ?_) (fun hb => ?_)))
   ·exfalso; rw [ho] at hb; cases hb
   ·exfalso; rw [ho] at hb; cases hb
   clear hb
   (repeat' first | refine Zad ?_ | (refine Zaa tok (by rfl) ?_; conv => whnf))
   refine .inl ⟨_, _, _, uG (QC.fc (hwi 3) rfl), ?_⟩
   conv => whnf
   (repeat' (refine Zah ?_; conv => whnf))
   exact ⟨_, rfl, Rel.agg (Rels.imm rfl)⟩
  ·refine Zaz (Weak.list (tl := [(4, .bp (4, 0, 0) 0), (5, .bp (5, 0, 0) 0), (6, .bp (6, 0, 0) 0), (7, .bp (7, 0, 0) 0), (8, .bp (8, 0, 0) 0)]) [((4, 0, 0), .old (4, 0, 0), Zam (Zao m)), ((5, 0, 0), .old (5, 0, 0), Zam (Zar (stM s 4 (f.regs.getD x.b.toNat 0)))), ((6, 0, 0), .old (6, 0, 0), Zam (Zay f)), ((7, 0, 0), .old (7, 0, 0), Zam (Zax x)), ((8, 0, 0), .old (8, 0, 0), Zam Zcu)] rfl (by rfl) ?_ (.old rfl (BLe.refl _) (.old rfl (BLe.rowW (Nat.le_refl _) (ltS (.cons .refl (.cons (wkc (by decide)) (.cons (wkc (by decide)) (.cons (wkc (by decide)) (.cons (wkc (by decide)) (.cons (wks (by omega)) (.cons (wkc (by decide)) (.cons (wkc (by decide)) (.cons (wkc (by decide)) (.cons (wkc (by decide)) (.cons (wkc (by decide)) (.cons (wkc (by decide)) (.cons (wkc (by decide)) (.cons (wkc (by decide)) (.cons (wkc (by decide)) (.cons (wkc (by decide)) (.cons (wkc (by decide)) (Wks.refl _)))))))))))))))))) lt0)) (.old rfl (BLe.refl _) (.old rfl (BLe.refl _) (.old rfl (BLe.refl _) .nil)))))) ?_
   ·((repeat' first | exact TLes.nil | refine tE rfl ?_); skip)
   (repeat' ((fail_if_success (show Rg 16)); (fail_if_success (show Rg 18)); (fail_if_success (show Rg 23)); first | refine Zad ?_ | (refine Zaa tok (by rfl) ?_; conv => whnf) | (refine Zag ?_; conv => whnf) | refine Zaf rfl (fun hb => ?_) (fun hb => ?_)))
   ·exfalso; rw [ho] at hb; cases hb
   ·exfalso; rw [ho] at hb; cases hb
   clear hb
   (repeat' first | refine Zad ?_ | (refine Zaa tok (by rfl) ?_; conv => whnf))
   refine .inl ⟨_, _, _, uG (QC.fc (hwi 4) rfl), ?_⟩
   conv => whnf
   (repeat' (refine Zah ?_; conv => whnf))
   exact ⟨_, rfl, Rel.agg (Rels.imm rfl)⟩
  ·refine Zaz (Weak.list (tl := [(4, .bp (4, 0, 0) 0), (5, .bp (5, 0, 0) 0), (6, .bp (6, 0, 0) 0), (7, .bp (7, 0, 0) 0), (8, .bp (8, 0, 0) 0)]) [((4, 0, 0), .old (4, 0, 0), Zam (Zao m)), ((5, 0, 0), .old (5, 0, 0), Zam (Zar (stM s 5 (f.regs.getD x.b.toNat 0)))), ((6, 0, 0), .old (6, 0, 0), Zam (Zay f)), ((7, 0, 0), .old (7, 0, 0), Zam (Zax x)), ((8, 0, 0), .old (8, 0, 0), Zam Zcu)] rfl (by rfl) ?_ (.old rfl (BLe.refl _) (.old rfl (BLe.rowW (Nat.le_refl _) (ltS (.cons .refl (.cons (wkc (by decide)) (.cons (wkc (by decide)) (.cons (wkc (by decide)) (.cons (wkc (by decide)) (.cons (wkc (by decide)) (.cons (wks (by omega)) (.cons (wkc (by decide)) (.cons (wkc (by decide)) (.cons (wkc (by decide)) (.cons (wkc (by decide)) (.cons (wkc (by decide)) (.cons (wkc (by decide)) (.cons (wkc (by decide)) (.cons (wkc (by decide)) (.cons (wkc (by decide)) (.cons (wkc (by decide)) (Wks.refl _)))))))))))))))))) lt0)) (.old rfl (BLe.refl _) (.old rfl (BLe.refl _) (.old rfl (BLe.refl _) .nil)))))) ?_
   ·((repeat' first | exact TLes.nil | refine tE rfl ?_); skip)
   (repeat' ((fail_if_success (show Rg 16)); (fail_if_success (show Rg 18)); (fail_if_success (show Rg 23)); first | refine Zad ?_ | (refine Zaa tok (by rfl) ?_; conv => whnf) | (refine Zag ?_; conv => whnf) | refine Zaf rfl (fun hb => ?_) (fun hb => ?_)))
   ·exfalso; rw [ho] at hb; cases hb
   ·exfalso; rw [ho] at hb; cases hb
   clear hb
   (repeat' first | refine Zad ?_ | (refine Zaa tok (by rfl) ?_; conv => whnf))
   refine .inl ⟨_, _, _, uG (QC.fc (hwi 5) rfl), ?_⟩
   conv => whnf
   (repeat' (refine Zah ?_; conv => whnf))
   exact ⟨_, rfl, Rel.agg (Rels.imm rfl)⟩
  ·refine Zaz (Weak.list (tl := [(4, .bp (4, 0, 0) 0), (5, .bp (5, 0, 0) 0), (6, .bp (6, 0, 0) 0), (7, .bp (7, 0, 0) 0), (8, .bp (8, 0, 0) 0)]) [((4, 0, 0), .old (4, 0, 0), Zam (Zao m)), ((5, 0, 0), .old (5, 0, 0), Zam (Zar (stM s 6 (f.regs.getD x.b.toNat 0)))), ((6, 0, 0), .old (6, 0, 0), Zam (Zay f)), ((7, 0, 0), .old (7, 0, 0), Zam (Zax x)), ((8, 0, 0), .old (8, 0, 0), Zam Zcu)] rfl (by rfl) ?_ (.old rfl (BLe.refl _) (.old rfl (BLe.rowW (Nat.le_refl _) (ltS (.cons .refl (.cons (wkc (by decide)) (.cons (wkc (by decide)) (.cons (wkc (by decide)) (.cons (wkc (by decide)) (.cons (wkc (by decide)) (.cons (wkc (by decide)) (.cons (wks (by omega)) (.cons (wkc (by decide)) (.cons (wkc (by decide)) (.cons (wkc (by decide)) (.cons (wkc (by decide)) (.cons (wkc (by decide)) (.cons (wkc (by decide)) (.cons (wkc (by decide)) (.cons (wkc (by decide)) (.cons (wkc (by decide)) (Wks.refl _)))))))))))))))))) lt0)) (.old rfl (BLe.refl _) (.old rfl (BLe.refl _) (.old rfl (BLe.refl _) .nil)))))) ?_
   ·((repeat' first | exact TLes.nil | refine tE rfl ?_); skip)
   (repeat' ((fail_if_success (show Rg 16)); (fail_if_success (show Rg 18)); (fail_if_success (show Rg 23)); first | refine Zad ?_ | (refine Zaa tok (by rfl) ?_; conv => whnf) | (refine Zag ?_; conv => whnf) | refine Zaf rfl (fun hb => ?_) (fun hb => ?_)))
   ·exfalso; rw [ho] at hb; cases hb
   ·exfalso; rw [ho] at hb; cases hb
   clear hb
   (repeat' first | refine Zad ?_ | (refine Zaa tok (by rfl) ?_; conv => whnf))
   refine .inl ⟨_, _, _, uG (QC.fc (hwi 6) rfl), ?_⟩
   conv => whnf
   (repeat' (refine Zah ?_; conv => whnf))
   exact ⟨_, rfl, Rel.agg (Rels.imm rfl)⟩
  ·refine Zaz (Weak.list (tl := [(4, .bp (4, 0, 0) 0), (5, .bp (5, 0, 0) 0), (6, .bp (6, 0, 0) 0), (7, .bp (7, 0, 0) 0), (8, .bp (8, 0, 0) 0)]) [((4, 0, 0), .old (4, 0, 0), Zam (Zao m)), ((5, 0, 0), .old (5, 0, 0), Zam (Zar (stM s 7 (f.regs.getD x.b.toNat 0)))), ((6, 0, 0), .old (6, 0, 0), Zam (Zay f)), ((7, 0, 0), .old (7, 0, 0), Zam (Zax x)), ((8, 0, 0), .old (8, 0, 0), Zam Zcu)] rfl (by rfl) ?_ (.old rfl (BLe.refl _) (.old rfl (BLe.rowW (Nat.le_refl _) (ltS (.cons .refl (.cons (wkc (by decide)) (.cons (wkc (by decide)) (.cons (wkc (by decide)) (.cons (wkc (by decide)) (.cons (wkc (by decide)) (.cons (wkc (by decide)) (.cons (wkc (by decide)) (.cons (wks (by omega)) (.cons (wkc (by decide)) (.cons (wkc (by decide)) (.cons (wkc (by decide)) (.cons (wkc (by decide)) (.cons (wkc (by decide)) (.cons (wkc (by decide)) (.cons (wkc (by decide)) (.cons (wkc (by decide)) (Wks.refl _)))))))))))))))))) lt0)) (.old rfl (BLe.refl _) (.old rfl (BLe.refl _) (.old rfl (BLe.refl _) .nil)))))) ?_
   ·((repeat' first | exact TLes.nil | refine tE rfl ?_); skip)
   (repeat' ((fail_if_success (show Rg 16)); (fail_if_success (show Rg 18)); (fail_if_success (show Rg 23)); first | refine Zad ?_ | (refine Zaa tok (by rfl) ?_; conv => whnf) | (refine Zag ?_; conv => whnf) | refine Zaf rfl (fun hb => ?_) (fun hb => ?_)))
   ·exfalso; rw [ho] at hb; cases hb
   ·exfalso; rw [ho] at hb; cases hb
   clear hb
   (repeat' first | refine Zad ?_ | (refine Zaa tok (by rfl) ?_; conv => whnf))
   refine .inl ⟨_, _, _, uG (QC.fc (hwi 7) rfl), ?_⟩
   conv => whnf
   (repeat' (refine Zah ?_; conv => whnf))
   exact ⟨_, rfl, Rel.agg (Rels.imm rfl)⟩
  ·refine Zaz (Weak.list (tl := [(4, .bp (4, 0, 0) 0), (5, .bp (5, 0, 0) 0), (6, .bp (6, 0, 0) 0), (7, .bp (7, 0, 0) 0), (8, .bp (8, 0, 0) 0)]) [((4, 0, 0), .old (4, 0, 0), Zam (Zao m)), ((5, 0, 0), .old (5, 0, 0), Zam (Zar (stM s 8 (f.regs.getD x.b.toNat 0)))), ((6, 0, 0), .old (6, 0, 0), Zam (Zay f)), ((7, 0, 0), .old (7, 0, 0), Zam (Zax x)), ((8, 0, 0), .old (8, 0, 0), Zam Zcu)] rfl (by rfl) ?_ (.old rfl (BLe.refl _) (.old rfl (BLe.rowW (Nat.le_refl _) (ltS (.cons .refl (.cons (wkc (by decide)) (.cons (wkc (by decide)) (.cons (wkc (by decide)) (.cons (wkc (by decide)) (.cons (wkc (by decide)) (.cons (wkc (by decide)) (.cons (wkc (by decide)) (.cons (wkc (by decide)) (.cons (wks (by omega)) (.cons (wkc (by decide)) (.cons (wkc (by decide)) (.cons (wkc (by decide)) (.cons (wkc (by decide)) (.cons (wkc (by decide)) (.cons (wkc (by decide)) (.cons (wkc (by decide)) (Wks.refl _)))))))))))))))))) lt0)) (.old rfl (BLe.refl _) (.old rfl (BLe.refl _) (.old rfl (BLe.refl _) .nil)))))) ?_
   ·((repeat' first | exact TLes.nil | refine tE rfl ?_); skip)
   (repeat' ((fail_if_success (show Rg 16)); (fail_if_success (show Rg 18)); (fail_if_success (show Rg 23)); first | refine Zad ?_ | (refine Zaa tok (by rfl) ?_; conv => whnf) | (refine Zag ?_; conv => whnf) | refine Zaf rfl (fun hb => ?_) (fun hb => ?_)))
   ·exfalso; rw [ho] at hb; cases hb
   ·exfalso; rw [ho] at hb; cases hb
   clear hb
   (repeat' first | refine Zad ?_ | (refine Zaa tok (by rfl) ?_; conv => whnf))
   refine .inl ⟨_, _, _, uG (QC.fc (hwi 8) rfl), ?_⟩
   conv => whnf
   (repeat' (refine Zah ?_; conv => whnf))
   exact ⟨_, rfl, Rel.agg (Rels.imm rfl)⟩
  ·refine Zaz (Weak.list (tl := [(4, .bp (4, 0, 0) 0), (5, .bp (5, 0, 0) 0), (6, .bp (6, 0, 0) 0), (7, .bp (7, 0, 0) 0), (8, .bp (8, 0, 0) 0)]) [((4, 0, 0), .old (4, 0, 0), Zam (Zao m)), ((5, 0, 0), .old (5, 0, 0), Zam (Zar (stM s 9 (f.regs.getD x.b.toNat 0)))), ((6, 0, 0), .old (6, 0, 0), Zam (Zay f)), ((7, 0, 0), .old (7, 0, 0), Zam (Zax x)), ((8, 0, 0), .old (8, 0, 0), Zam Zcu)] rfl (by rfl) ?_ (.old rfl (BLe.refl _) (.old rfl (BLe.rowW (Nat.le_refl _) (ltS (.cons .refl (.cons (wkc (by decide)) (.cons (wkc (by decide)) (.cons (wkc (by decide)) (.cons (wkc (by decide)) (.cons (wkc (by decide)) (.cons (wkc (by decide)) (.cons (wkc (by decide)) (.cons (wkc (by decide)) (.cons (wkc (by decide)) (.cons (wks (by omega)) (.cons (wkc (by decide)) (.cons (wkc (by decide)) (.cons (wkc (by decide)) (.cons (wkc (by decide)) (.cons (wkc (by decide)) (.cons (wkc (by decide)) (Wks.refl _)))))))))))))))))) lt0)) (.old rfl (BLe.refl _) (.old rfl (BLe.refl _) (.old rfl (BLe.refl _) .nil)))))) ?_
   ·((repeat' first | exact TLes.nil | refine tE rfl ?_); skip)
   (repeat' ((fail_if_success (show Rg 16)); (fail_if_success (show Rg 18)); (fail_if_success (show Rg 23)); first | refine Zad ?_ | (refine Zaa tok (by rfl) ?_; conv => whnf) | (refine Zag ?_; conv => whnf) | refine Zaf rfl (fun hb => ?_) (fun hb => ?_)))
   ·exfalso; rw [ho] at hb; cases hb
   ·exfalso; rw [ho] at hb; cases hb
   clear hb
   (repeat' first | refine Zad ?_ | (refine Zaa tok (by rfl) ?_; conv => whnf))
   refine .inl ⟨_, _, _, uG (QC.fc (hwi 9) rfl), ?_⟩
   conv => whnf
   (repeat' (refine Zah ?_; conv => whnf))
   exact ⟨_, rfl, Rel.agg (Rels.imm rfl)⟩
  ·refine Zaz (Weak.list (tl := [(4, .bp (4, 0, 0) 0), (5, .bp (5, 0, 0) 0), (6, .bp (6, 0, 0) 0), (7, .bp (7, 0, 0) 0), (8, .bp (8, 0, 0) 0)]) [((4, 0, 0), .old (4, 0, 0), Zam (Zao m)), ((5, 0, 0), .old (5, 0, 0), Zam (Zar (stM s 10 (f.regs.getD x.b.toNat 0)))), ((6, 0, 0), .old (6, 0, 0), Zam (Zay f)), ((7, 0, 0), .old (7, 0, 0), Zam (Zax x)), ((8, 0, 0), .old (8, 0, 0), Zam Zcu)] rfl (by rfl) ?_ (.old rfl (BLe.refl _) (.old rfl (BLe.rowW (Nat.le_refl _) (ltS (.cons .refl (.cons (wkc (by decide)) (.cons (wkc (by decide)) (.cons (wkc (by decide)) (.cons (wkc (by decide)) (.cons (wkc (by decide)) (.cons (wkc (by decide)) (.cons (wkc (by decide)) (.cons (wkc (by decide)) (.cons (wkc (by decide)) (.cons (wkc (by decide)) (.cons (wks (by omega)) (.cons (wkc (by decide)) (.cons (wkc (by decide)) (.cons (wkc (by decide)) (.cons (wkc (by decide)) (.cons (wkc (by decide)) (Wks.refl _)))))))))))))))))) lt0)) (.old rfl (BLe.refl _) (.old rfl (BLe.refl _) (.old rfl (BLe.refl _) .nil)))))) ?_
   ·((repeat' first | exact TLes.nil | refine tE rfl ?_); skip)
   (repeat' ((fail_if_success (show Rg 16)); (fail_if_success (show Rg 18)); (fail_if_success (show Rg 23)); first | refine Zad ?_ | (refine Zaa tok (by rfl) ?_; conv => whnf) | (refine Zag ?_; conv => whnf) | refine Zaf rfl (fun hb => ?_) (fun hb => ?_)))
   ·exfalso; rw [ho] at hb; cases hb
   ·exfalso; rw [ho] at hb; cases hb
   clear hb
   (repeat' first | refine Zad ?_ | (refine Zaa tok (by rfl) ?_; conv => whnf))
   refine .inl ⟨_, _, _, uG (QC.fc (hwi 10) rfl), ?_⟩
   conv => whnf
   (repeat' (refine Zah ?_; conv => whnf))
   exact ⟨_, rfl, Rel.agg (Rels.imm rfl)⟩
  ·refine Zaz (Weak.list (tl := [(4, .bp (4, 0, 0) 0), (5, .bp (5, 0, 0) 0), (6, .bp (6, 0, 0) 0), (7, .bp (7, 0, 0) 0), (8, .bp (8, 0, 0) 0)]) [((4, 0, 0), .old (4, 0, 0), Zam (Zao m)), ((5, 0, 0), .old (5, 0, 0), Zam (Zar (stM s 11 (f.regs.getD x.b.toNat 0)))), ((6, 0, 0), .old (6, 0, 0), Zam (Zay f)), ((7, 0, 0), .old (7, 0, 0), Zam (Zax x)), ((8, 0, 0), .old (8, 0, 0), Zam Zcu)] rfl (by rfl) ?_ (.old rfl (BLe.refl _) (.old rfl (BLe.rowW (Nat.le_refl _) (ltS (.cons .refl (.cons (wkc (by decide)) (.cons (wkc (by decide)) (.cons (wkc (by decide)) (.cons (wkc (by decide)) (.cons (wkc (by decide)) (.cons (wkc (by decide)) (.cons (wkc (by decide)) (.cons (wkc (by decide)) (.cons (wkc (by decide)) (.cons (wkc (by decide)) (.cons (wkc (by decide)) (.cons (wks (by omega)) (.cons (wkc (by decide)) (.cons (wkc (by decide)) (.cons (wkc (by decide)) (.cons (wkc (by decide)) (Wks.refl _)))))))))))))))))) lt0)) (.old rfl (BLe.refl _) (.old rfl (BLe.refl _) (.old rfl (BLe.refl _) .nil)))))) ?_
   ·((repeat' first | exact TLes.nil | refine tE rfl ?_); skip)
   (repeat' ((fail_if_success (show Rg 16)); (fail_if_success (show Rg 18)); (fail_if_success (show Rg 23)); first | refine Zad ?_ | (refine Zaa tok (by rfl) ?_; conv => whnf) | (refine Zag ?_; conv => whnf) | refine Zaf rfl (fun hb => ?_) (fun hb => ?_)))
   ·exfalso; rw [ho] at hb; cases hb
   ·exfalso; rw [ho] at hb; cases hb
   clear hb
   (repeat' first | refine Zad ?_ | (refine Zaa tok (by rfl) ?_; conv => whnf))
   refine .inl ⟨_, _, _, uG (QC.fc (hwi 11) rfl), ?_⟩
   conv => whnf
   (repeat' (refine Zah ?_; conv => whnf))
   exact ⟨_, rfl, Rel.agg (Rels.imm rfl)⟩
  ·refine Zaz (Weak.list (tl := [(4, .bp (4, 0, 0) 0), (5, .bp (5, 0, 0) 0), (6, .bp (6, 0, 0) 0), (7, .bp (7, 0, 0) 0), (8, .bp (8, 0, 0) 0)]) [((4, 0, 0), .old (4, 0, 0), Zam (Zao m)), ((5, 0, 0), .old (5, 0, 0), Zam (Zar (stM s 12 (f.regs.getD x.b.toNat 0)))), ((6, 0, 0), .old (6, 0, 0), Zam (Zay f)), ((7, 0, 0), .old (7, 0, 0), Zam (Zax x)), ((8, 0, 0), .old (8, 0, 0), Zam Zcu)] rfl (by rfl) ?_ (.old rfl (BLe.refl _) (.old rfl (BLe.rowW (Nat.le_refl _) (ltS (.cons .refl (.cons (wkc (by decide)) (.cons (wkc (by decide)) (.cons (wkc (by decide)) (.cons (wkc (by decide)) (.cons (wkc (by decide)) (.cons (wkc (by decide)) (.cons (wkc (by decide)) (.cons (wkc (by decide)) (.cons (wkc (by decide)) (.cons (wkc (by decide)) (.cons (wkc (by decide)) (.cons (wkc (by decide)) (.cons (wks (by omega)) (.cons (wkc (by decide)) (.cons (wkc (by decide)) (.cons (wkc (by decide)) (Wks.refl _)))))))))))))))))) lt0)) (.old rfl (BLe.refl _) (.old rfl (BLe.refl _) (.old rfl (BLe.refl _) .nil)))))) ?_
   ·((repeat' first | exact TLes.nil | refine tE rfl ?_); skip)
   (repeat' ((fail_if_success (show Rg 16)); (fail_if_success (show Rg 18)); (fail_if_success (show Rg 23)); first | refine Zad ?_ | (refine Zaa tok (by rfl) ?_; conv => whnf) | (refine Zag ?_; conv => whnf) | refine Zaf rfl (fun hb => ?_) (fun hb => ?_)))
   ·exfalso; rw [ho] at hb; cases hb
   ·exfalso; rw [ho] at hb; cases hb
   clear hb
   (repeat' first | refine Zad ?_ | (refine Zaa tok (by rfl) ?_; conv => whnf))
   refine .inl ⟨_, _, _, uG (QC.fc (hwi 12) rfl), ?_⟩
   conv => whnf
   (repeat' (refine Zah ?_; conv => whnf))
   exact ⟨_, rfl, Rel.agg (Rels.imm rfl)⟩
  ·refine Zaz (Weak.list (tl := [(4, .bp (4, 0, 0) 0), (5, .bp (5, 0, 0) 0), (6, .bp (6, 0, 0) 0), (7, .bp (7, 0, 0) 0), (8, .bp (8, 0, 0) 0)]) [((4, 0, 0), .old (4, 0, 0), Zam (Zao m)), ((5, 0, 0), .old (5, 0, 0), Zam (Zar (stM s 13 (f.regs.getD x.b.toNat 0)))), ((6, 0, 0), .old (6, 0, 0), Zam (Zay f)), ((7, 0, 0), .old (7, 0, 0), Zam (Zax x)), ((8, 0, 0), .old (8, 0, 0), Zam Zcu)] rfl (by rfl) ?_ (.old rfl (BLe.refl _) (.old rfl (BLe.rowW (Nat.le_refl _) (ltS (.cons .refl (.cons (wkc (by decide)) (.cons (wkc (by decide)) (.cons (wkc (by decide)) (.cons (wkc (by decide)) (.cons (wkc (by decide)) (.cons (wkc (by decide)) (.cons (wkc (by decide)) (.cons (wkc (by decide)) (.cons (wkc (by decide)) (.cons (wkc (by decide)) (.cons (wkc (by decide)) (.cons (wkc (by decide)) (.cons (wkc (by decide)) (.cons (wks (by omega)) (.cons (wkc (by decide)) (.cons (wkc (by decide)) (Wks.refl _)))))))))))))))))) lt0)) (.old rfl (BLe.refl _) (.old rfl (BLe.refl _) (.old rfl (BLe.refl _) .nil)))))) ?_
   ·((repeat' first | exact TLes.nil | refine tE rfl ?_); skip)
   (repeat' ((fail_if_success (show Rg 16)); (fail_if_success (show Rg 18)); (fail_if_success (show Rg 23)); first | refine Zad ?_ | (refine Zaa tok (by rfl) ?_; conv => whnf) | (refine Zag ?_; conv => whnf) | refine Zaf rfl (fun hb => ?_) (fun hb => ?_)))
   ·exfalso; rw [ho] at hb; cases hb
   ·exfalso; rw [ho] at hb; cases hb
   clear hb
   (repeat' first | refine Zad ?_ | (refine Zaa tok (by rfl) ?_; conv => whnf))
   refine .inl ⟨_, _, _, uG (QC.fc (hwi 13) rfl), ?_⟩
   conv => whnf
   (repeat' (refine Zah ?_; conv => whnf))
   exact ⟨_, rfl, Rel.agg (Rels.imm rfl)⟩
  ·refine Zaz (Weak.list (tl := [(4, .bp (4, 0, 0) 0), (5, .bp (5, 0, 0) 0), (6, .bp (6, 0, 0) 0), (7, .bp (7, 0, 0) 0), (8, .bp (8, 0, 0) 0)]) [((4, 0, 0), .old (4, 0, 0), Zam (Zao m)), ((5, 0, 0), .old (5, 0, 0), Zam (Zar (stM s 14 (f.regs.getD x.b.toNat 0)))), ((6, 0, 0), .old (6, 0, 0), Zam (Zay f)), ((7, 0, 0), .old (7, 0, 0), Zam (Zax x)), ((8, 0, 0), .old (8, 0, 0), Zam Zcu)] rfl (by rfl) ?_ (.old rfl (BLe.refl _) (.old rfl (BLe.rowW (Nat.le_refl _) (ltS (.cons .refl (.cons (wkc (by decide)) (.cons (wkc (by decide)) (.cons (wkc (by decide)) (.cons (wkc (by decide)) (.cons (wkc (by decide)) (.cons (wkc (by decide)) (.cons (wkc (by decide)) (.cons (wkc (by decide)) (.cons (wkc (by decide)) (.cons (wkc (by decide)) (.cons (wkc (by decide)) (.cons (wkc (by decide)) (.cons (wkc (by decide)) (.cons (wkc (by decide)) (.cons (wks (by omega)) (.cons (wkc (by decide)) (Wks.refl _)))))))))))))))))) lt0)) (.old rfl (BLe.refl _) (.old rfl (BLe.refl _) (.old rfl (BLe.refl _) .nil)))))) ?_
   ·((repeat' first | exact TLes.nil | refine tE rfl ?_); skip)
   (repeat' ((fail_if_success (show Rg 16)); (fail_if_success (show Rg 18)); (fail_if_success (show Rg 23)); first | refine Zad ?_ | (refine Zaa tok (by rfl) ?_; conv => whnf) | (refine Zag ?_; conv => whnf) | refine Zaf rfl (fun hb => ?_) (fun hb => ?_)))
   ·exfalso; rw [ho] at hb; cases hb
   ·exfalso; rw [ho] at hb; cases hb
   clear hb
   (repeat' first | refine Zad ?_ | (refine Zaa tok (by rfl) ?_; conv => whnf))
   refine .inl ⟨_, _, _, uG (QC.fc (hwi 14) rfl), ?_⟩
   conv => whnf
   (repeat' (refine Zah ?_; conv => whnf))
   exact ⟨_, rfl, Rel.agg (Rels.imm rfl)⟩
  ·refine Zaz (Weak.list (tl := [(4, .bp (4, 0, 0) 0), (5, .bp (5, 0, 0) 0), (6, .bp (6, 0, 0) 0), (7, .bp (7, 0, 0) 0), (8, .bp (8, 0, 0) 0)]) [((4, 0, 0), .old (4, 0, 0), Zam (Zao m)), ((5, 0, 0), .old (5, 0, 0), Zam (Zar (stM s 15 (f.regs.getD x.b.toNat 0)))), ((6, 0, 0), .old (6, 0, 0), Zam (Zay f)), ((7, 0, 0), .old (7, 0, 0), Zam (Zax x)), ((8, 0, 0), .old (8, 0, 0), Zam Zcu)] rfl (by rfl) ?_ (.old rfl (BLe.refl _) (.old rfl (BLe.rowW (Nat.le_refl _) (ltS (.cons .refl (.cons (wkc (by decide)) (.cons (wkc (by decide)) (.cons (wkc (by decide)) (.cons (wkc (by decide)) (.cons (wkc (by decide)) (.cons (wkc (by decide)) (.cons (wkc (by decide)) (.cons (wkc (by decide)) (.cons (wkc (by decide)) (.cons (wkc (by decide)) (.cons (wkc (by decide)) (.cons (wkc (by decide)) (.cons (wkc (by decide)) (.cons (wkc (by decide)) (.cons (wkc (by decide)) (.cons (wks (by omega)) (Wks.refl _)))))))))))))))))) lt0)) (.old rfl (BLe.refl _) (.old rfl (BLe.refl _) (.old rfl (BLe.refl _) .nil)))))) ?_
   ·((repeat' first | exact TLes.nil | refine tE rfl ?_); skip)
   (repeat' ((fail_if_success (show Rg 16)); (fail_if_success (show Rg 18)); (fail_if_success (show Rg 23)); first | refine Zad ?_ | (refine Zaa tok (by rfl) ?_; conv => whnf) | (refine Zag ?_; conv => whnf) | refine Zaf rfl (fun hb => ?_) (fun hb => ?_)))
   ·exfalso; rw [ho] at hb; cases hb
   ·exfalso; rw [ho] at hb; cases hb
   clear hb
   (repeat' first | refine Zad ?_ | (refine Zaa tok (by rfl) ?_; conv => whnf))
   refine .inl ⟨_, _, _, uG (QC.fc (hwi 15) rfl), ?_⟩
   conv => whnf
   (repeat' (refine Zah ?_; conv => whnf))
   exact ⟨_, rfl, Rel.agg (Rels.imm rfl)⟩
set_option linter.unusedSimpArgs false
def newM (m : Zak) (inputs : List Int) : Mach := ⟨[frN m 0 []], List.replicate 16 0, inputs, [], 0, 0⟩
theorem c_newM (m : Zak) (inputs : List Int) (h1 : 0 < m.funcs.length) (hp : (m.funcs.getD 0 default).params = 0) (hR : (m.funcs.getD 0 default).regs ≤ 256) : FC Tryz.prog 61 [.agg (Zao m), u16s inputs] (.agg (Zar (newM m inputs))) := by
 refine Zan tok Tryz.func61 rfl (by decide +kernel) (nB rfl) ?_
 have hN := c_frNew m 0 [] (by omega) (by omega) (by simp only [List.length_nil]; exact hp.symm) hR
 (repeat' first | refine Zad ?_ | (refine Zaa tok (by rfl) ?_; conv => whnf))
 refine .inr ⟨_, _, _, uG (QH.give (rd := []) hN (.i (.i (.cons .nsl .nil))) rfl), ?_⟩
 conv => whnf
 (repeat' first | refine Zad ?_ | (refine Zaa tok (by rfl) ?_; conv => whnf) | (refine Zah ?_; conv => whnf))
 refine ⟨_, rfl, Rel.agg (.cons (Rel.row rfl rfl rfl (fun z hz => ?_)) (.cons (Rel.imm rfl) (.cons (Rel.imm rfl) (.cons (Rel.imm rfl) (.cons (Rel.imm rfl) (.cons (Rel.imm rfl) (.cons (Rel.imm rfl) (.cons (Rel.imm rfl) (.cons (Rel.imm rfl) (.cons (Rel.imm rfl) (.cons (Rel.imm rfl) (.cons (Rel.imm rfl) (.cons (Rel.imm rfl) (.cons (Rel.imm rfl) (.cons (Rel.imm rfl) (.cons (Rel.imm rfl) (.cons (Rel.imm rfl) (.cons (Rel.imm rfl) (.cons (Rel.nsl' rfl) (.cons (Rel.imm rfl) (.cons (Rel.imm rfl) .nil)))))))))))))))))))))⟩
 have hz0 : z = 0 := by have : z < 1 := hz; omega
 subst hz0; rfl
set_option linter.unusedSimpArgs false
def regA (f : Za5) (p : Int) : Int := f.regs.getD p.toNat 0
def goF (b : Zbs) (f : Za5) : Za5 := { f with block := if b.fin.kind = 3 ∧ regA f b.fin.a = 0 then b.fin.els else b.fin.to, at_ := 0 }
def Zdf (m : Zak) (s : Mach) (f : Za5) (b : Zbs) : Mach :=
 if endB m f = false then insM m s f (b.ins.getD f.at_.toNat default)
 else if b.fin.kind = 1 then Zbp m s (regA f b.fin.a)
 else if b.fin.kind = 4 then Zb1 m s b.fin.f b.fin.args
 else if b.fin.kind = 5 then Zbt m s (regA f b.fin.a)
 else if b.fin.kind = 6 then Zbt m s f.fly
 else Zbh s (goF b f)
def Zb0 (m : Zak) (s : Mach) : Mach := if s.done = 0 then Zdf m s (topF s) (Za4 m (topF s)) else s
set_option maxHeartbeats 4000000 in
theorem c_Step (m : Zak) (s : Mach) (f : Za5) (b : Zbs) (hf : topF s = f) (hbe : Za4 m f = b) (hs : s.done = 0 → 0 < s.stack.length) (hsl : s.stack.length ≤ 1000) (hF : s.done = 0 → OkF m f)
  (hA : s.done = 0 → endB m f = true → (b.fin.kind = 1 ∨ b.fin.kind = 3 ∨ b.fin.kind = 5) → 0 ≤ b.fin.a ∧ b.fin.a < f.regs.length)
  (hI : s.done = 0 → endB m f = false → FCins m s f (b.ins.getD f.at_.toNat default))
  (h1 : s.done = 0 → endB m f = true → b.fin.kind = 1 → ∀ w, FC Tryz.prog 107 [.agg (Zao m), .agg (Zar s), .int .u16 w] (.agg (Zar (Zbp m s w))))
  (h4 : s.done = 0 → endB m f = true → b.fin.kind = 4 → FC Tryz.prog 108 [.agg (Zao m), .agg (Zar s), iv b.fin.f, ints b.fin.args] (.agg (Zar (Zb1 m s b.fin.f b.fin.args))))
  (h5 : s.done = 0 → ∀ w, FC Tryz.prog 109 [.agg (Zao m), .agg (Zar s), .int .u16 w] (.agg (Zar (Zbt m s w)))) :
  FC Tryz.prog 62 [.agg (Zao m), .agg (Zar s)] (.agg (Zar (Zb0 m s))) := by
 refine Zan tok Tryz.func62 rfl (by decide +kernel) (nB rfl) ?_
 have hmx : mL = 4294967296 := rfl
 (repeat' ((fail_if_success (show Rg 2)); (fail_if_success (show Rg 3)); first | refine Zad ?_ | (refine Zaa tok (by rfl) ?_; conv => whnf) | (refine Zag ?_; conv => whnf) | refine Zaf rfl (fun hb => ?_) (fun hb => ?_)))
 ·have hd : ¬ s.done = 0 := by simpa using hb
  rw [show Zb0 m s = s from if_neg hd]
  (repeat' first | (refine Zaa tok (by rfl) ?_; conv => whnf) | (refine Zah ?_; conv => whnf))
  exact ⟨_, rfl, Rel.agg (Rels.imm rfl)⟩
 have hd : s.done = 0 := by simpa using hb
 clear hb
 rw [show Zb0 m s = Zdf m s (topF s) (Za4 m (topF s)) from if_pos hd, hf, hbe]
 replace hs := hs hd
 replace hF := hF hd
 replace hA := hA hd
 replace hI := hI hd
 replace h1 := h1 hd
 replace h4 := h4 hd
 replace h5 := h5 hd
 have hSt := c_stands m f hF
 have ha0 := hF.a0
 have ha1 := hF.a1
 have hE : endB m f = decide (f.at_ = b.ins.length) := by unfold endB; rw [hbe]
 rw [hbe] at hSt ha1
 have ht : s.stack.getD (IntKind.i64.wrap ((s.stack.length : Int) - 1)).toNat default = f := by
  have : (IntKind.i64.wrap ((s.stack.length : Int) - 1)).toNat = s.stack.length - 1 := by rw [Zal (by omega) (by omega)]; omega
  rw [this, ← hf]; rfl
 ((repeat' ((fail_if_success (show Rg 4)); first | refine Zad ?_ | (refine Zaa tok (by rfl) ?_; conv => whnf) | (refine uA ?_ ?_; rotate_left; (conv => whnf); rotate_right))); all_goals (try ((guard_target = Zac _ _ _ _); refine Zae ?_; (all_goals (try simp only [Zac, kZ, kA, kB, mL, Zab] at *)); (all_goals (try (simp (disch := omega) only [Zal]))); all_goals omega)))
 refine Zaz (Weak.list (tl := [(2, .bp (2, 0, 0) 0), (3, .bp (3, 0, 0) 0), (4, .bp (4, 0, 0) 0), (5, .bp (5, 0, 0) 0)]) [((2, 0, 0), .old (2, 0, 0), Zam (Zao m)), ((3, 0, 0), .old (3, 0, 0), Zam (Zar s)), ((4, 0, 0), .old (4, 0, 0), Zam Zcu), ((5, 0, 0), .old (5, 0, 0), .row true 5 1 (fun _ => Zay f))] rfl (by rfl) ?_ (.old rfl (BLe.refl _) (.old rfl (BLe.refl _) (.old rfl (BLe.refl _) (.old rfl (BLe.rowW (Nat.le_refl _) (ltS (Wks.of (by rw [← ht]; rfl)) lt0)) .nil))))) ?_
 ·((repeat' first | exact TLes.nil | refine tE rfl ?_); skip)
 (repeat' (refine Zaa tok (by rfl) ?_; conv => whnf))
 refine .inl ⟨_, _, _, uG (QC.fc hSt rfl), ?_⟩
 conv => whnf
 (repeat' ((fail_if_success (show Rg 6)); (fail_if_success (show Rg 7)); first | refine Zad ?_ | (refine Zaa tok (by rfl) ?_; conv => whnf) | (refine Zag ?_; conv => whnf) | refine Zaf rfl (fun hb => ?_) (fun hb => ?_)))
 ·have he : endB m f = false := by rw [hE]; simpa using hb
  have hlt : f.at_ < b.ins.length := by simp at hb; omega
  clear hb
  rw [show Zdf m s f b = insM m s f (b.ins.getD f.at_.toNat default) from if_pos he]
  ((repeat' first | (refine Za2 tok mix (by rfl) ?_; conv => whnf) | (refine uA ?_ ?_; rotate_left; (conv => whnf); rotate_right)); all_goals (try ((guard_target = Zac _ _ _ _); refine Zae ?_; (all_goals (try simp only [Zac, kZ, kA, kB, mL, Zab] at *)); all_goals omega)))
  refine .inl ⟨_, _, _, uG (QC.fc (hI he) rfl), ?_⟩
  conv => whnf
  (repeat' (refine Zah ?_; conv => whnf))
  exact ⟨_, rfl, Rel.agg (Rels.imm rfl)⟩
 have he : endB m f = true := by rw [hE]; simpa using hb
 clear hb
 have hend : ∀ r, r = Zar (Zdf m s f b) → r = Zar (Zdf m s f b) := fun _ h => h
 clear hend
 (repeat' ((fail_if_success (show Rg 10)); (fail_if_success (show Rg 12)); (fail_if_success (show Rg 14)); (fail_if_success (show Rg 16)); (fail_if_success (show Rg 17)); first | refine Zad ?_ | (refine Zaa tok (by rfl) ?_; conv => whnf) | refine Zaj ?_ | (refine Zag ?_; conv => whnf) | refine Zaf rfl (fun hb => ?_) (fun hb => ?_)))
 ·have hk : b.fin.kind = 1 := by simpa using hb
  clear hb
  obtain ⟨g1, g2⟩ := hA he (.inl hk)
  rw [show Zdf m s f b = Zbp m s (regA f b.fin.a) from by unfold Zdf; rw [if_neg (by rw [he]; simp), if_pos hk]]
  ((repeat' first | (refine Za2 tok mix (by rfl) ?_; conv => whnf) | (refine uA ?_ ?_; rotate_left; (conv => whnf); rotate_right)); all_goals (try ((guard_target = Zac _ _ _ _); refine Zae ?_; (all_goals (try simp only [Zac, kZ, kA, kB, mL, Zab] at *)); all_goals omega)))
  refine .inl ⟨_, _, _, uG (QC.fc (h1 he hk (regA f b.fin.a)) rfl), ?_⟩
  conv => whnf
  (repeat' (refine Zah ?_; conv => whnf))
  exact ⟨_, rfl, Rel.agg (Rels.imm rfl)⟩
 ·have hk : b.fin.kind = 4 := by simpa using hb
  clear hb
  rw [show Zdf m s f b = Zb1 m s b.fin.f b.fin.args from by unfold Zdf; rw [if_neg (by rw [he]; simp), if_neg (by omega), if_pos hk]]
  (repeat' (refine Zaa tok (by rfl) ?_; conv => whnf))
  refine .inl ⟨_, _, _, uG (QC.fc (h4 he hk) rfl), ?_⟩
  conv => whnf
  (repeat' (refine Zah ?_; conv => whnf))
  exact ⟨_, rfl, Rel.agg (Rels.imm rfl)⟩
 ·have hk : b.fin.kind = 5 := by simpa using hb
  clear hb
  obtain ⟨g1, g2⟩ := hA he (.inr (.inr hk))
  rw [show Zdf m s f b = Zbt m s (regA f b.fin.a) from by unfold Zdf; rw [if_neg (by rw [he]; simp), if_neg (by omega), if_neg (by omega), if_pos hk]]
  ((repeat' first | (refine Za2 tok mix (by rfl) ?_; conv => whnf) | (refine uA ?_ ?_; rotate_left; (conv => whnf); rotate_right)); all_goals (try ((guard_target = Zac _ _ _ _); refine Zae ?_; (all_goals (try simp only [Zac, kZ, kA, kB, mL, Zab] at *)); all_goals omega)))
  refine .inl ⟨_, _, _, uG (QC.fc (h5 (regA f b.fin.a)) rfl), ?_⟩
  conv => whnf
  (repeat' (refine Zah ?_; conv => whnf))
  exact ⟨_, rfl, Rel.agg (Rels.imm rfl)⟩
 ·have hk : b.fin.kind = 6 := by simpa using hb
  clear hb
  rw [show Zdf m s f b = Zbt m s f.fly from by unfold Zdf; rw [if_neg (by rw [he]; simp), if_neg (by omega), if_neg (by omega), if_neg (by omega), if_pos hk]]
  (repeat' (refine Zaa tok (by rfl) ?_; conv => whnf))
  refine .inl ⟨_, _, _, uG (QC.fc (h5 f.fly) rfl), ?_⟩
  conv => whnf
  (repeat' (refine Zah ?_; conv => whnf))
  exact ⟨_, rfl, Rel.agg (Rels.imm rfl)⟩
 ·have hk : Zdf m s f b = Zbh s (goF b f) := by
   unfold Zdf
   rw [if_neg (by rw [he]; simp), if_neg (by simp_all), if_neg (by simp_all), if_neg (by simp_all), if_neg (by simp_all)]
  rw [hk]
  by_cases h3 : b.fin.kind = 3
  ·obtain ⟨g1, g2⟩ := hA he (.inr (.inl h3))
   ((repeat' first | refine Zad ?_ | (refine Zaa tok (by rfl) ?_; conv => whnf) | (refine Zag ?_; conv => whnf) | refine Zaf rfl (fun hb => ?_) (fun hb => ?_) | (refine uA ?_ ?_; rotate_left; (conv => whnf); rotate_right)); all_goals (try ((guard_target = Zac _ _ _ _); ((refine Za7 ?_; intro hgd; (conv at hgd => whnf))); (all_goals (try simp only [Zac, kZ, kA, kB, mL, Zab] at *)); all_goals omega)))
   ·have hz : f.regs.getD b.fin.a.toNat 0 = 0 := by rw [decide_eq_true h3, cond_true] at hb; simpa using hb
    rw [show goF b f = { f with block := b.fin.els, at_ := 0 } from by unfold goF regA; rw [if_pos ⟨h3, hz⟩]]
    refine .inl ⟨_, _, _, uG (QC.fc (Zet s { f with block := b.fin.els, at_ := 0 } hs) rfl), ?_⟩
    conv => whnf
    (repeat' (refine Zah ?_; conv => whnf))
    exact ⟨_, rfl, Rel.agg (Rels.imm rfl)⟩
   ·have hz : ¬ f.regs.getD b.fin.a.toNat 0 = 0 := by rw [decide_eq_true h3, cond_true] at hb; simpa using hb
    rw [show goF b f = { f with block := b.fin.to, at_ := 0 } from by unfold goF regA; rw [if_neg (fun h => hz h.2)]]
    refine .inl ⟨_, _, _, uG (QC.fc (Zet s { f with block := b.fin.to, at_ := 0 } hs) rfl), ?_⟩
    conv => whnf
    (repeat' (refine Zah ?_; conv => whnf))
    exact ⟨_, rfl, Rel.agg (Rels.imm rfl)⟩
  ·((repeat' first | refine Zad ?_ | (refine Zaa tok (by rfl) ?_; conv => whnf) | (refine Zag ?_; conv => whnf) | refine Zaf rfl (fun hb => ?_) (fun hb => ?_) | (refine uA ?_ ?_; rotate_left; (conv => whnf); rotate_right)); all_goals (try ((guard_target = Zac _ _ _ _); ((refine Za7 ?_; intro hgd; (conv at hgd => whnf))); (all_goals (try simp only [Zac, kZ, kA, kB, mL, Zab] at *)); all_goals omega)))
   ·exfalso; rw [decide_eq_false h3] at hb; cases hb
   ·rw [show goF b f = { f with block := b.fin.to, at_ := 0 } from by unfold goF regA; rw [if_neg (fun h => h3 h.1)]]
    refine .inl ⟨_, _, _, uG (QC.fc (Zet s { f with block := b.fin.to, at_ := 0 } hs) rfl), ?_⟩
    conv => whnf
    (repeat' (refine Zah ?_; conv => whnf))
    exact ⟨_, rfl, Rel.agg (Rels.imm rfl)⟩
set_option linter.unusedSimpArgs false
def runM (m : Zak) (inputs : List Int) : Nat → Mach
 | 0 => newM m inputs
 | k + 1 => Zb0 m (runM m inputs k)
theorem run_done {m : Zak} {inputs : List Int} {i : Nat} (h : ¬ (runM m inputs i).done = 0) : ∀ k, runM m inputs (i + k) = runM m inputs i
 | 0 => rfl
 | k + 1 => by
   show Zb0 m (runM m inputs (i + k)) = _
   rw [run_done h k]
   exact if_neg h
theorem c_Run (m : Zak) (inputs : List Int) (n : Nat) (hn : n < 1000000) (hN : FC Tryz.prog 61 [.agg (Zao m), u16s inputs] (.agg (Zar (newM m inputs))))
  (hS : ∀ k, k < n → FC Tryz.prog 62 [.agg (Zao m), .agg (Zar (runM m inputs k))] (.agg (Zar (runM m inputs (k + 1))))) :
  FC Tryz.prog 23 [.agg (Zao m), u16s inputs, iv n] (.agg (Zar (runM m inputs n))) := by
 refine Zan tok Tryz.func23 rfl (by decide +kernel) (nB rfl) ?_
 have hmx : mL = 4294967296 := rfl
 (repeat' first | refine Zad ?_ | (refine Zaa tok (by rfl) ?_; conv => whnf))
 refine .inl ⟨_, _, _, uG (QC.fc hN rfl), ?_⟩
 conv => whnf
 (repeat' ((fail_if_success (show Rg 3)); first | refine Zad ?_ | (refine Zaa tok (by rfl) ?_; conv => whnf) | refine Zaj ?_))
 refine Za3 (fun i : Nat => mkS [(2, iv n), (3, .bp (3, 0, 0) 0), (6, .bp (6, 0, 0) 0), (7, .bp (7, 0, 0) 0), (8, iv i)] [((3, 0, 0), Zam (Zao m)), ((6, 0, 0), Zam Zcu), ((7, 0, 0), .row true 21 1 (fun _ => Zar (runM m inputs i)))]) (fun i => i ≤ n) (fun i => n - i) 0 (Nat.zero_le _) ?_ ?_
 ·refine Weak.list [((3, 0, 0), .old (3, 0, 0), Zam (Zao m)), ((6, 0, 0), .old (6, 0, 0), Zam Zcu), ((7, 0, 0), .old (7, 0, 0), .row true 21 1 (fun _ => Zar (runM m inputs 0)))] rfl (by rfl) ?_ (.old rfl (BLe.refl _) (.old rfl (BLe.refl _) (.old rfl (BLe.rowW (Nat.le_refl _) (ltS (Wks.of rfl) lt0)) .nil)))
  ((repeat' first | exact TLes.nil | refine tE rfl ?_); skip)
 intro i hi
 (repeat' ((fail_if_success (show Rg 5)); (fail_if_success (show Rg 6)); first | refine Zad ?_ | (refine Zaa tok (by rfl) ?_; conv => whnf) | refine Zaj ?_ | (refine Zag ?_; conv => whnf) | (refine Za0 ?_; conv => whnf) | refine Zaf rfl (fun hb => ?_) (fun hb => ?_)))
 ·have hlt : i < n ∧ (runM m inputs i).done = 0 := by
   by_cases e1 : (i : Int) < n <;> by_cases e2 : (runM m inputs i).done = 0 <;> simp [e1, e2] at hb
   exact ⟨by omega, e2⟩
  clear hb
  (repeat' (refine Zaa tok (by rfl) ?_; conv => whnf))
  refine .inl ⟨_, _, _, uG (QC.fc (hS i hlt.1) rfl), ?_⟩
  conv => whnf
  have hi1 := hlt.1
  (repeat' (refine Zaa tok (by rfl) ?_; conv => whnf))
  refine ⟨i + 1, hi1, by omega, ?_⟩
  refine Weak.list [((3, 0, 0), .old (3, 0, 0), Zam (Zao m)), ((6, 0, 0), .old (6, 0, 0), Zam Zcu), ((7, 0, 0), .old (7, 0, 0), .row true 21 1 (fun _ => Zar (runM m inputs (i + 1))))] rfl (by rfl) ?_ (.old rfl (BLe.refl _) (.old rfl (BLe.refl _) (.old rfl (BLe.rowW (Nat.le_refl _) (ltS (Wks.of rfl) lt0)) .nil)))
  ((repeat' first | exact TLes.nil | refine tE rfl ?_ | refine TLes.cons (TLe.int ?_) ?_); (all_goals first | ((try (simp only [Zac, kZ, kA, kB, mL, Zab] at *)); exact Zal (by omega) (by omega)) | skip))
 ·have he : runM m inputs i = runM m inputs n := by
   by_cases e1 : i = n
   ·rw [e1]
   ·have e2 : ¬ (runM m inputs i).done = 0 := fun e2 => by
     rw [decide_eq_true (show (i : Int) < n by omega), e2] at hb; cases hb
    have := run_done e2 (n - i)
    rw [show i + (n - i) = n by omega] at this
    exact this.symm
  rw [← he]
  (repeat' first | (refine Zaa tok (by rfl) ?_; conv => whnf) | (refine Zah ?_; conv => whnf))
  exact ⟨_, rfl, Rel.agg (Rels.imm rfl)⟩
set_option linter.unusedSimpArgs false
def Zba (m : Zak) (f : Za5) : Ins := (Za4 m f).ins.getD f.at_.toNat default
structure CallF (m : Zak) (f : Za5) : Prop where
 fin : endB m f = true → (Za4 m f).fin.kind = 4
 ins : endB m f = false → (Zba m f).op = 11
structure OkM (m : Zak) (s : Mach) : Prop where
 cells : s.cells.length = 16
 fr : ∀ f ∈ s.stack, OkF m f
 ca : ∀ f ∈ s.stack.take (s.stack.length - 1), CallF m f
 len : s.stack.length ≤ 32
 pos : s.done = 0 → 0 < s.stack.length
 inp : (∀ x ∈ s.inputs, 0 ≤ x ∧ x ≤ 65535) ∧ s.inputs.length < 1000000
theorem okF_ins {m : Zak} {f : Za5} (hr : Za6 m = true) (h : OkF m f) (he : endB m f = false) : f.at_.toNat < (Za4 m f).ins.length ∧ InsP m (Zbd m f) (Zba m f) := by
 have h1 : ¬ f.at_ = (Za4 m f).ins.length := by unfold endB at he; simpa using he
 have h2 := h.a0
 have h3 := h.a1
 have hl : f.at_.toNat < (Za4 m f).ins.length := by omega
 refine ⟨hl, ?_⟩
 have := okF_blk hr h h.b0 h.b1
 unfold blkB at this
 rw [Bool.and_eq_true, List.all_eq_true] at this
 have := this.2 _ (Zbu (default : Ins) hl)
 simpa [Zba, Za4] using this
theorem okF_funP {m : Zak} {f : Func} (h : Zem m f = true) : FunP f := by
 unfold Zem at h; rw [Bool.and_eq_true, decide_eq_true_eq] at h; exact h.1
theorem okF_new {m : Zak} {n : Int} {args : List Int} (hr : Za6 m = true) (h0 : 0 ≤ n) (h1 : n < m.funcs.length) : OkF m (frN m n args) := by
 have hP := okF_funP (Zc9 hr (show n.toNat < m.funcs.length by omega))
 obtain ⟨p0, p1, p2, p3, p4, p5, p6⟩ := hP
 refine ⟨h0, h1, Int.le_refl _, ?_, Int.le_refl _, ?_, ?_⟩
 ·show (0 : Int) < ((m.funcs.getD n.toNat default).blocks.length : Int); omega
 ·exact Int.natCast_nonneg _
 ·show (((List.range (m.funcs.getD n.toNat default).regs.toNat).map (regN args)).length : Int) = (m.funcs.getD n.toNat default).regs
  rw [List.length_map, List.length_range]; omega
theorem okF_W {m : Zak} {f : Za5} (h : OkF m f) (n w : Int) : OkF m (frW f n w) := ⟨h.f0, h.f1, h.b0, h.b1, h.a0, h.a1, by rw [show (frW f n w).regs.length = f.regs.length by simp [frW]]; exact h.regs⟩
theorem okF_to {m : Zak} {f : Za5} (h : OkF m f) {b : Int} (b0 : 0 ≤ b) (b1 : b < (Zbd m f).blocks.length) : OkF m { f with block := b, at_ := 0 } :=
 ⟨h.f0, h.f1, b0, b1, Int.le_refl _, Int.natCast_nonneg _, h.regs⟩
theorem okF_next {m : Zak} {f : Za5} (h : OkF m f) (he : endB m f = false) : OkF m { f with at_ := f.at_ + 1 } := by
 have h1 : ¬ f.at_ = (Za4 m f).ins.length := by unfold endB at he; simpa using he
 have h2 := h.a0
 have h3 := h.a1
 exact ⟨h.f0, h.f1, h.b0, h.b1, by show 0 ≤ f.at_ + 1; omega, by show f.at_ + 1 ≤ ((Za4 m f).ins.length : Int); omega, h.regs⟩
theorem goal_inM {f : Func} {n : Int} (h : goalB f n = true) : 0 ≤ n ∧ n < f.blocks.length := by
 unfold goalB at h
 cases h2 : inn n f.blocks.length with
 | false => rw [h2] at h; cases h
 | true => exact (Zab _ _).1 h2
theorem Zd5 {m : Zak} {s : Mach} (h : OkM m s) {f : Za5} (hf : OkF m f) (hp : 0 < s.stack.length) : OkM m (Zbh s f) := by
 have hl : (Zbh s f).stack.length = s.stack.length := by simp [Zbh]; omega
 have ht : (Zbh s f).stack.take ((Zbh s f).stack.length - 1) = s.stack.take (s.stack.length - 1) := by
  rw [hl]; show (s.stack.take (s.stack.length - 1) ++ [f]).take _ = _
  rw [List.take_append_of_le_length (by simp), List.take_take, Nat.min_self]
 refine ⟨h.cells, fun g hg => ?_, by rw [ht]; exact h.ca, by rw [hl]; exact h.len, fun _ => by rw [hl]; exact hp, h.inp⟩
 rcases List.mem_append.1 hg with hg | hg
 ·exact h.fr g (List.mem_of_mem_take hg)
 ·rw [List.mem_singleton.1 hg]; exact hf
theorem okM_end {m : Zak} {s : Mach} (h : OkM m s) {how w : Int} (hh : how ≠ 0) : OkM m (endM s how w) := ⟨h.cells, h.fr, h.ca, h.len, fun e => absurd e hh, h.inp⟩
theorem okM_take {m : Zak} {s : Mach} (h : OkM m s) (k : Nat) (hk : k ≤ s.stack.length) (hp : s.done = 0 → 0 < k) : OkM m (Zep s k) := by
 have hl : (Zep s k).stack.length = k := by simp [Zep]; omega
 refine ⟨h.cells, fun g hg => h.fr g (List.mem_of_mem_take hg), fun g hg => h.ca g ?_, by rw [hl]; have := h.len; omega, fun e => by rw [hl]; exact hp e, h.inp⟩
 rw [hl] at hg
 have : (Zep s k).stack.take (k - 1) = (s.stack.take (s.stack.length - 1)).take (k - 1) := by
  show (s.stack.take k).take (k - 1) = _
  rw [List.take_take, List.take_take, show min (k - 1) k = min (k - 1) (s.stack.length - 1) by omega]
 rw [this] at hg
 exact List.mem_of_mem_take hg
theorem popM_eq (s : Mach) : popM s = Zep s (s.stack.length - 1) := rfl
theorem Zdd {s : Mach} (h : 0 < s.stack.length) : topF s ∈ s.stack := Zbu _ (by omega)
theorem okM_called {m : Zak} {s : Mach} (hr : Za6 m = true) (h : OkM m s) {n : Int} {places : List Int} (h0 : 0 ≤ n) (h1 : n < m.funcs.length) (hp : 0 < s.stack.length) (hc : CallF m (topF s)) : OkM m (Zb1 m s n places) := by
 unfold Zb1
 split
 ·exact okM_end h (by decide)
 ·rename_i h32
  refine ⟨h.cells, fun g hg => ?_, fun g hg => ?_, by simp; omega, fun _ => by simp, h.inp⟩
  ·rcases List.mem_append.1 hg with hg | hg
   ·exact h.fr g hg
   ·rw [List.mem_singleton.1 hg]; exact okF_new hr h0 h1
  ·have hg2 : g ∈ s.stack := by
    have e : (s.stack ++ [frN m n (Zb2 (topF s) places)]).take ((s.stack ++ [frN m n (Zb2 (topF s) places)]).length - 1) = s.stack := by
     rw [List.length_append]; simp
    rw [← e]; exact hg
   have e : s.stack = s.stack.take (s.stack.length - 1) ++ [topF s] := by
    have e1 : s.stack.take (s.stack.length - 1 + 1) = s.stack.take (s.stack.length - 1) ++ [s.stack.getD (s.stack.length - 1) default] := by
     rw [List.take_add_one, List.getD_eq_getElem?_getD, List.getElem?_eq_getElem (by omega)]; rfl
    rw [show s.stack.length - 1 + 1 = s.stack.length by omega, List.take_length] at e1
    exact e1
   rw [e] at hg2
   rcases List.mem_append.1 hg2 with hg | hg
   ·exact h.ca g hg
   ·rw [List.mem_singleton.1 hg]; exact hc
theorem callF_dst {m : Zak} {f : Za5} (hr : Za6 m = true) (h : OkF m f) (hc : CallF m f) :
  (endB m f = true → (0 ≤ (Za4 m f).fin.dst ∧ (Za4 m f).fin.dst < f.regs.length) ∧ (0 ≤ (Za4 m f).fin.to ∧ (Za4 m f).fin.to < (Zbd m f).blocks.length)) ∧
  (endB m f = false → 0 ≤ (Zba m f).dst ∧ (Zba m f).dst < f.regs.length) := by
 refine ⟨fun he => ?_, fun he => ?_⟩
 ·have hk := hc.fin he
  have hE := (Zfi hr h).2
  rw [h.regs]
  rcases hE with h | h | h | h | h
  ·omega
  ·omega
  ·omega
  ·exact ⟨(Zab _ _).1 h.2.2.1, goal_inM h.2.2.2.2.1⟩
  ·omega
 ·have hk := hc.ins he
  have hI := (okF_ins hr h he).2
  rw [h.regs]
  rcases hI with h | h | h | h | h | h | h
  ·omega
  ·omega
  ·omega
  ·omega
  ·exact (Zab _ _).1 h.2.1
  ·omega
  ·omega
theorem top_take {s : Mach} {k : Nat} (h : k + 1 < s.stack.length) : s.stack.getD k default ∈ s.stack.take (s.stack.length - 1) := by
 rw [← Zbi (l := s.stack) (k := s.stack.length - 1) default (by omega)]
 exact Zbu _ (by simp; omega)
theorem Zfg {m : Zak} {s : Mach} (h : OkM m s) (h2 : 1 < s.stack.length) : OkF m (topF (popM s)) ∧ CallF m (topF (popM s)) := by
 have e : topF (popM s) = s.stack.getD (s.stack.length - 2) default := by
  unfold topF; rw [Zcl]; show (s.stack.take (s.stack.length - 1)).getD (s.stack.length - 1 - 1) default = _
  rw [Zbi _ (by omega)]; rfl
 rw [e]
 exact ⟨h.fr _ (Zbu _ (by omega)), h.ca _ (top_take (by omega))⟩
theorem okM_answered {m : Zak} {s : Mach} (hr : Za6 m = true) (h : OkM m s) {w : Int} (hp : 0 < s.stack.length) : OkM m (Zbp m s w) := by
 unfold Zbp
 split
 ·rename_i h1
  have := h.cells
  exact ⟨h.cells, fun g hg => h.fr g (List.mem_of_mem_take hg), fun g hg => h.ca g (by
   have : g ∈ (s.stack.take (s.stack.length - 1)).take ((s.stack.take (s.stack.length - 1)).length - 1) := hg
   exact List.mem_of_mem_take this), by show (popM s).stack.length ≤ 32; rw [Zcl]; omega, fun e => absurd (show (1 : Int) = 0 from e) (by decide), h.inp⟩
 ·rename_i h1
  obtain ⟨hF, hC⟩ := Zfg h (by omega)
  have hd := callF_dst hr hF hC
  refine Zd5 (popM_eq s ▸ okM_take h _ (by omega) (fun _ => by omega)) ?_ (by rw [Zcl]; omega)
  unfold answF
  split
  ·rename_i he
   have := hd.1 he
   exact okF_to (okF_W hF _ _) this.2.1 this.2.2
  ·rename_i he
   exact okF_next (okF_W hF _ _) (show endB m (topF (popM s)) = false from by simpa using he)
theorem okM_thrown {m : Zak} {s : Mach} (hr : Za6 m = true) (h : OkM m s) {w : Int} (hp : 0 < s.stack.length) : OkM m (Zbt m s w) := by
 by_cases hany : (List.range (popM s).stack.length).any (Zck m (popM s).stack w false) = true
 ·have hT : Zbt m s w = Zbh (Zep (popM s) (Ze5 (Zck m (popM s).stack w true) ((popM s).stack.length - 1) + 1)) (landF m ((popM s).stack.getD (Ze5 (Zck m (popM s).stack w true) ((popM s).stack.length - 1)) default) (Za4 m ((popM s).stack.getD (Ze5 (Zck m (popM s).stack w true) ((popM s).stack.length - 1)) default)).fin.pad w) := by
   unfold Zbt; rw [if_pos hany]
  rw [List.any_eq_true] at hany
  obtain ⟨i, hi, hic⟩ := hany
  rw [List.mem_range] at hi
  obtain ⟨hK1, hK2⟩ := downK_spec (p := Zck m (popM s).stack w true) (n := (popM s).stack.length - 1) ⟨i, by omega, catch_more hic⟩
  rw [hT]
  have hgen : ∃ K, Ze5 (Zck m (popM s).stack w true) ((popM s).stack.length - 1) = K := ⟨_, rfl⟩
  obtain ⟨K, hK⟩ := hgen
  rw [hK] at hK1 hK2 ⊢
  have hpl := Zcl (s := s)
  have hF : OkF m ((popM s).stack.getD K default) := by
   rw [show (popM s).stack.getD K default = s.stack.getD K default from Zbi _ (by omega)]
   exact h.fr _ (Zbu _ (by omega))
  have hk4 : (Za4 m ((popM s).stack.getD K default)).fin.kind = 4 := by
   unfold Zck Zes at hK1
   simp only [Bool.and_eq_true, decide_eq_true_eq] at hK1
   exact hK1.2.1
  obtain ⟨⟨g1, g2⟩, g3, g4, g5⟩ := okF_pad hr hF hk4
  refine Zd5 (s := Zep (popM s) (K + 1)) ?_ ?_ (by simp [Zep]; omega)
  ·have e : Zep (popM s) (K + 1) = Zep s (K + 1) := by
    show ({ s with stack := (s.stack.take (s.stack.length - 1)).take (K + 1) } : Mach) = { s with stack := s.stack.take (K + 1) }
    rw [List.take_take, show min (K + 1) (s.stack.length - 1) = K + 1 by omega]
   rw [e]
   exact okM_take h _ (by omega) (fun _ => by omega)
  ·exact okF_W (okF_to (f := { (popM s).stack.getD K default with fly := w }) ⟨hF.f0, hF.f1, hF.b0, hF.b1, hF.a0, hF.a1, hF.regs⟩ g1 g2) _ _
 ·have hT : Zbt m s w = endM (popM s) 2 w := by
   unfold Zbt; rw [if_neg hany]
  rw [hT]
  exact ⟨h.cells, fun g hg => h.fr g (List.mem_of_mem_take hg), fun g hg => h.ca g (by
   have : g ∈ (s.stack.take (s.stack.length - 1)).take ((s.stack.take (s.stack.length - 1)).length - 1) := hg
   exact List.mem_of_mem_take this), by show (popM s).stack.length ≤ 32; rw [Zcl]; have := h.len; omega, fun e => absurd (show (2 : Int) = 0 from e) (by decide), h.inp⟩
theorem Zeu {m : Zak} {f : Func} {n : Int} {l : List Int} (h : Zdq m f n l = true) : (0 ≤ n ∧ n < m.funcs.length) ∧ (l.length : Int) = (m.funcs.getD n.toNat default).params ∧ ∀ p ∈ l, 0 ≤ p ∧ p < f.regs := by
 unfold Zdq at h
 cases h2 : inn n m.funcs.length with
 | false => simp [h2] at h
 | true =>
  refine ⟨(Zab _ _).1 h2, ?_⟩
  simp [h2] at h
  refine ⟨by simpa using h.1, fun p hp => (Zab _ _).1 ?_⟩
  have := h.2 p hp
  simpa using this
end Go.Proofs.YtoelbgjpmpoolaaGreat
