/- Whatever a module, the words told to it, and the steps: what ends Thrown by mach.Step, or lands, was thrown by the frame on top, and no frame below where it lands is changed. -/
import Derived.Test.YtoelbgjpmpoolaaDvc3
import Derived.Test.YtoelbgjpmpoolaaLawmachThrown1
set_option linter.unusedVariables false
set_option linter.unusedSimpArgs false
set_option linter.unnecessarySimpa false
namespace Go.Proofs.Ytoelbgjpmpoolaa
open Go Dv
def leL (a b : List Bool) : Prop := ∀ i, a.getD i false = true → b.getD i false = true
theorem leL.refl (a : List Bool) : leL a a := fun _ h => h
theorem leL.trans {a b c : List Bool} (h : leL a b) (k : leL b c) : leL a c := fun i e => k i (h i e)
def cnt (a : List Bool) : Nat := a.count true
theorem cnt_le {a : List Bool} : cnt a ≤ a.length := List.count_le_length
theorem cnt_mono : ∀ {a b : List Bool}, a.length = b.length → leL a b → cnt a ≤ cnt b ∧ (cnt b ≤ cnt a → a = b)
  | [], [], _, _ => ⟨Nat.le_refl _, fun _ => rfl⟩
  | x :: a, y :: b, hl, h => by
      have hl' : a.length = b.length := by simpa using hl
      have h' : leL a b := fun i e => by have := h (i + 1) (by simpa using e); simpa using this
      have h0 : x = true → y = true := fun e => by have := h 0 (by simpa using e); simpa using this
      obtain ⟨h1, h2⟩ := cnt_mono hl' h'
      unfold cnt at h1 h2 ⊢
      cases x <;> cases y
      · refine ⟨by simpa using h1, fun k => ?_⟩
        rw [h2 (by simpa using k)]
      · refine ⟨by simp; omega, fun k => ?_⟩
        simp at k; omega
      · exact absurd (h0 rfl) (by simp)
      · refine ⟨by simpa using h1, fun k => ?_⟩
        rw [h2 (by simpa using k)]
theorem set_get {a : List Bool} {n i : Nat} (hn : n < a.length) : (a.set n true).getD i false = (decide (n = i) || a.getD i false) := by
  rw [getD_set]
  by_cases h : n = i
  · subst h; simp [hn]
  · simp [h]
theorem leL_set (a : List Bool) (n : Nat) : leL a (a.set n true) := fun i h => by
  by_cases hn : n < a.length
  · rw [set_get hn, h]; simp
  · rw [List.set_eq_of_length_le (by omega)]; exact h
section
variable (len : Nat) (D : Nat → List Bool → Bool)
def MonoD : Prop := ∀ n a b, leL a b → D n a = true → D n b = true
structure Closed (a : List Bool) : Prop where
  sz : a.length = len
  cl : ∀ n, n < len → D n a = true → a.getD n false = true
def Zf1 (a : List Bool) : Prop := ∀ c, Closed len D c → leL a c
def nxt (a : List Bool) : List Bool := (List.range len).map fun n => a.getD n false || D n a
def iterN : Nat → List Bool → List Bool
  | 0, a => a
  | k + 1, a => iterN k (nxt len D a)
def lfp : List Bool := iterN len D (len + 1) (List.replicate len false)
variable {len D}
theorem nxt_len (a : List Bool) : (nxt len D a).length = len := by simp [nxt]
theorem nxt_get (a : List Bool) {i : Nat} (hi : i < len) : (nxt len D a).getD i false = (a.getD i false || D i a) := by simp [nxt, List.getD_eq_getElem?_getD, hi]
theorem getD_ge {a : List Bool} {i : Nat} (h : a.length ≤ i) : a.getD i false = false := by simp [List.getD_eq_getElem?_getD, h]
theorem nxt_le {a : List Bool} (hl : a.length = len) : leL a (nxt len D a) := fun i h => by
  by_cases hi : i < len
  · rw [nxt_get a hi, h]; rfl
  · rw [getD_ge (by omega)] at h; cases h
theorem nxt_beneath (hD : MonoD D) {a : List Bool} (h : Zf1 len D a) : Zf1 len D (nxt len D a) := fun c hc i e => by
  by_cases hi : i < len
  · rw [nxt_get a hi, Bool.or_eq_true] at e
    rcases e with e | e
    · exact h c hc i e
    · exact hc.cl i hi (hD i a c (h c hc) e)
  · rw [getD_ge (by rw [nxt_len]; omega)] at e; cases e
theorem nxt_same {a : List Bool} (hl : a.length = len) (h : cnt (nxt len D a) ≤ cnt a) : Closed len D a := by
  have e := (cnt_mono (by rw [hl, nxt_len]) (nxt_le hl)).2 h
  refine ⟨hl, fun n hn hd => ?_⟩
  rw [e, nxt_get a hn, hd]; simp
theorem nxt_closed {a : List Bool} (h : Closed len D a) : nxt len D a = a := by
  refine Zed false (by rw [nxt_len, h.sz]) (fun i hi => ?_)
  rw [nxt_len] at hi
  rw [nxt_get a hi]
  cases e : D i a with
  | false => simp
  | true => rw [h.cl i hi e]; rfl
theorem iterN_ok (hD : MonoD D) : ∀ (k : Nat) (a : List Bool), a.length = len → Zf1 len D a → (iterN len D k a).length = len ∧ Zf1 len D (iterN len D k a) ∧ (Closed len D (iterN len D k a) ∨ k + cnt a ≤ cnt (iterN len D k a))
  | 0, a, hl, hb => ⟨hl, hb, .inr (by simp [iterN])⟩
  | k + 1, a, hl, hb => by
      have ih := iterN_ok hD k (nxt len D a) (nxt_len a) (nxt_beneath hD hb)
      simp only [iterN]
      refine ⟨ih.1, ih.2.1, ?_⟩
      by_cases hc : cnt (nxt len D a) ≤ cnt a
      · have h0 := nxt_same hl hc
        left
        have : ∀ k, iterN len D k a = a := fun k => by
          induction k with
          | zero => rfl
          | succ k ih => rw [iterN, nxt_closed h0, ih]
        rw [nxt_closed h0, this k]; exact h0
      · rcases ih.2.2 with h | h
        · exact .inl h
        · right; omega
theorem lfp_ok (hD : MonoD D) : Closed len D (lfp len D) ∧ Zf1 len D (lfp len D) := by
  have h0 : Zf1 len D (List.replicate len false) := fun c _ i e => by
    exfalso; simp only [List.getD_eq_getElem?_getD, List.getElem?_replicate] at e; split at e <;> simp at e
  have := iterN_ok hD (len + 1) (List.replicate len false) (by simp) h0
  refine ⟨?_, this.2.1⟩
  rcases this.2.2 with h | h
  · exact h
  · have h2 : cnt (iterN len D (len + 1) (List.replicate len false)) ≤ (iterN len D (len + 1) (List.replicate len false)).length := cnt_le
    rw [this.1] at h2; omega
theorem lfp_uniq (hD : MonoD D) {a : List Bool} (h1 : Closed len D a) (h2 : Zf1 len D a) : a = lfp len D := by
  obtain ⟨h3, h4⟩ := lfp_ok hD (len := len)
  refine Zed false (by rw [h1.sz, h3.sz]) (fun i _ => ?_)
  have e1 := h2 _ h3 i
  have e2 := h4 _ h1 i
  cases hx : a.getD i false <;> cases hy : (lfp len D).getD i false
  · rfl
  · rw [e2 hy] at hx; cases hx
  · rw [e1 hx] at hy; cases hy
  · rfl
end
end Go.Proofs.Ytoelbgjpmpoolaa
namespace Go.Proofs.Ytoelbgjpmpoolaa
open Go Dv
set_option maxRecDepth 10000
set_option linter.unusedSimpArgs false
def hasB (l : List Int) (n : Int) : Bool := l.any fun y => decide (n = y)
theorem all_at {α : Type} (d : α) {p : α → Bool} {l : List α} (h : l.all p = true) {i : Nat} (hi : i < l.length) : p (l.getD i d) = true := by
  rw [List.all_eq_true] at h; rw [Zci d hi]; exact h _ (List.getElem_mem hi)
theorem func_blocks {m : Zai} {f : Func} (h : funcB m f = true) {i : Nat} (hi : i < f.blocks.length) : blkB m f (f.blocks.getD i default) = true := by
  unfold funcB at h; rw [Bool.and_eq_true] at h
  exact all_at default h.2 hi
end Go.Proofs.Ytoelbgjpmpoolaa
namespace Go.Proofs.Ytoelbgjpmpoolaa
open Go Dv
set_option maxRecDepth 10000
set_option linter.unusedSimpArgs false
theorem Zev {m : Zai} (h : Zbj m = true) {n : Nat} (hn : n < m.funcs.length) : funcB m (m.funcs.getD n default) = true := by
  unfold Zbj at h; rw [Bool.and_eq_true] at h
  exact List.all_eq_true.1 h.2 _ (Zc2 default hn)
theorem okF_fun {m : Zai} {f : Zaw} (hr : Zbj m = true) (h : OkF m f) : funcB m (Zdk m f) = true := Zev hr (by have := h.f0; have := h.f1; omega)
theorem okF_blk {m : Zai} {f : Zaw} (hr : Zbj m = true) (h : OkF m f) {q : Int} (q0 : 0 ≤ q) (q1 : q < (Zdk m f).blocks.length) : blkB m (Zdk m f) ((Zdk m f).blocks.getD q.toNat default) = true := func_blocks (okF_fun hr h) (by omega)
theorem Zey {m : Zai} {f : Zaw} (hr : Zbj m = true) (h : OkF m f) : (Zas m f).ins.length ≤ 64 ∧ EndP m (Zdk m f) (Zas m f).fin := by
  have := okF_blk hr h h.b0 h.b1
  unfold blkB at this
  rw [Bool.and_eq_true, decide_eq_true_eq] at this
  exact ⟨this.1.1, this.1.2.2⟩
theorem okF_pad {m : Zai} {f : Zaw} (hr : Zbj m = true) (h : OkF m f) (hk : (Zas m f).fin.kind = 4) :
    (0 ≤ (Zas m f).fin.pad ∧ (Zas m f).fin.pad < (Zdk m f).blocks.length) ∧ ((Zdk m f).blocks.getD (Zas m f).fin.pad.toNat default).landing = true ∧
    0 ≤ ((Zdk m f).blocks.getD (Zas m f).fin.pad.toNat default).pad.dst ∧ ((Zdk m f).blocks.getD (Zas m f).fin.pad.toNat default).pad.dst < f.regs.length := by
  have he := (Zey hr h).2
  have h4 : inn (Zas m f).fin.pad (Zdk m f).blocks.length = true ∧ ((Zdk m f).blocks.getD (Zas m f).fin.pad.toNat default).landing = true := by
    rcases he with h | h | h | h | h
    · omega
    · omega
    · omega
    · exact ⟨h.2.2.2.2.2.2.1, h.2.2.2.2.2.2.2⟩
    · omega
  obtain ⟨h5, h6⟩ := h4
  rw [Zad] at h5
  have hp := okF_blk hr h h5.1 h5.2
  unfold blkB at hp
  rw [Bool.and_eq_true, decide_eq_true_eq] at hp
  have hP := hp.1.2.1
  refine ⟨h5, h6, ?_⟩
  unfold PadP at hP
  rcases hP with h7 | h7
  · rw [h6] at h7; exact absurd h7.1 (by simp)
  · have := h7.2.2.2.1
    rw [Zad] at this
    rw [h.regs]; exact this
def Zer (p : Nat → Bool) : Nat → Nat
  | 0 => 0
  | n + 1 => if p (n + 1) = true then n + 1 else Zer p n
theorem Zfc {p : Nat → Bool} : ∀ {n : Nat}, (∃ i, i ≤ n ∧ p i = true) → p (Zer p n) = true ∧ Zer p n ≤ n
  | 0, ⟨i, hi, h⟩ => by have : i = 0 := by omega
                        subst this; exact ⟨h, Nat.le_refl _⟩
  | n + 1, ⟨i, hi, h⟩ => by
      unfold Zer
      split
      · rename_i h2; exact ⟨h2, Nat.le_refl _⟩
      · rename_i h2
        have := Zfc (p := p) (n := n) ⟨i, by
          rcases Nat.lt_or_ge n i with h3 | h3
          · have : i = n + 1 := by omega
            subst this; exact absurd h h2
          · exact h3, h⟩
        exact ⟨this.1, by omega⟩
theorem downK_no {p : Nat → Bool} {n : Nat} (h : ∃ i, i ≤ n ∧ p i = true) (hn : ¬ p n = true) : 0 < n ∧ Zer p n = Zer p (n - 1) := by
  cases n with
  | zero => obtain ⟨i, hi, h⟩ := h; have : i = 0 := by omega
            subst this; exact absurd h hn
  | succ n => refine ⟨by omega, ?_⟩; show (if p (n + 1) = true then n + 1 else Zer p n) = _; rw [if_neg hn]; rfl
theorem downK_yes {p : Nat → Bool} {n : Nat} (hn : p n = true) : Zer p n = n := by
  cases n with
  | zero => rfl
  | succ n => show (if p (n + 1) = true then n + 1 else _) = _; rw [if_pos hn]
def Zbt (m : Zai) (l : List Zaw) (w : Int) (c : Bool) (i : Nat) : Bool := Zex m (l.getD i default) w c
def Zdf (s : Mach) (k : Nat) : Mach := { s with stack := s.stack.take k }
def Zbc (m : Zai) (s : Mach) (w : Int) : Mach :=
  let l := (popM s).stack
  if (List.range l.length).any (Zbt m l w false) = true then
    let k := Zer (Zbt m l w true) (l.length - 1)
    Zbu (Zdf (popM s) (k + 1)) (landF m (l.getD k default) (Zas m (l.getD k default)).fin.pad w)
  else endM (popM s) 2 w
theorem catch_more {m : Zai} {f : Zaw} {w : Int} (h : Zex m f w false = true) : Zex m f w true = true := by
  unfold Zex at h ⊢
  simp only [Bool.false_and, Bool.or_false, Bool.and_eq_true, Bool.true_and, Bool.or_eq_true] at h ⊢
  exact ⟨h.1, h.2.1, .inl h.2.2⟩
end Go.Proofs.Ytoelbgjpmpoolaa
namespace Go.Proofs.Ytoelbgjpmpoolaa
open Go Dv
set_option maxRecDepth 10000
set_option linter.unusedSimpArgs false
theorem c_fFun (m : Zai) (n : Int) (hr : Zbj m = true) (h0 : 0 ≤ n) (h1 : n < m.funcs.length) : FC Try.prog 38 [.agg (Zbf m), iv n] (.tup [.agg (Zez (m.funcs.getD n.toNat default)), .bool true]) := by
  refine Zax tok Try.func38 rfl (by decide +kernel) (Nat.le_of_ble_eq_true rfl) ?_
  have hR := c_lRight c_lpad m
  rw [hr] at hR
  (repeat' first | refine Zac ?_ | (refine Zab tok (by rfl) ?_; conv => whnf))
  refine .inl ⟨_, _, _, uG (QC.fc hR rfl), ?_⟩
  conv => whnf
  ((repeat' first | refine Zac ?_ | (refine Zab tok (by rfl) ?_; conv => whnf) | (refine Zag ?_; conv => whnf) | (refine Zaj ?_; conv => whnf) | refine Zaf rfl (fun hb => ?_) (fun hb => ?_) | (refine @And.intro (Zaa _ _ _ _) _ ?_ ?_; rotate_left; (conv => whnf); rotate_right)); all_goals (try ((guard_target = Zaa _ _ _ _); refine Zae ?_; (all_goals (try simp only [Zaa, kzz, kz11, kz12, maxL, Zad] at *)); all_goals omega)))
  · exfalso
    rw [decide_eq_false (show ¬ n < 0 by omega), decide_eq_false (show ¬ (m.funcs.length : Int) ≤ n by omega)] at hb
    cases hb
  · exact ⟨_, rfl, Rel.tup (.cons (Rel.agg (Rels.imm rfl)) (.cons (Rel.imm rfl) .nil))⟩
theorem c_fAt (f : Zaw) (n : Int) : FC Try.prog 52 [.agg (Zbd f), iv n] (.tup [.int .u16 (if thereB f n = true then f.regs.getD n.toNat 0 else 0), .bool (thereB f n)]) := by
  refine Zax tok Try.func52 rfl (by decide +kernel) (Nat.le_of_ble_eq_true rfl) ?_
  ((repeat' first | refine Zac ?_ | (refine Zab tok (by rfl) ?_; conv => whnf) | (refine Zag ?_; conv => whnf) | (refine Zaj ?_; conv => whnf) | refine Zaf rfl (fun hb => ?_) (fun hb => ?_) | (refine @And.intro (Zaa _ _ _ _) _ ?_ ?_; rotate_left; (conv => whnf); rotate_right)); all_goals (try ((guard_target = Zaa _ _ _ _); refine Zae ?_; (all_goals (try simp only [Zaa, kzz, kz11, kz12, maxL, Zad] at *)); all_goals omega)))
  · have hn : thereB f n = false := by
      unfold thereB; rw [decide_eq_false_iff_not]; intro h
      rw [decide_eq_false (show ¬ n < 0 by omega), decide_eq_false (show ¬ (f.regs.length : Int) ≤ n by omega)] at hb
      cases hb
    rw [hn]
    exact ⟨_, rfl, Rel.tup (.cons (Rel.imm rfl) (.cons (Rel.imm rfl) .nil))⟩
  · have hn : thereB f n = true := by
      unfold thereB; rw [decide_eq_true_eq]
      by_cases e1 : n < 0
      · rw [decide_eq_true e1] at hb; cases hb
      · rw [decide_eq_false e1] at hb
        by_cases e2 : (f.regs.length : Int) ≤ n
        · rw [decide_eq_true e2] at hb; cases hb
        · omega
    rw [hn]
    exact ⟨_, rfl, Rel.tup (.cons (Rel.imm rfl) (.cons (Rel.imm rfl) .nil))⟩
theorem c_fRight (m : Zai) (f : Zaw) (hr : Zbj m = true) (h : OkF m f) : FC Try.prog 21 [.agg (Zbf m), .agg (Zbd f)] (.bool true) := by
  refine Zax tok Try.func21 rfl (by decide +kernel) (Nat.le_of_ble_eq_true rfl) ?_
  have h1 := c_fFun m f.f hr h.f0 h.f1
  have f0 := h.f0
  have f1 := h.f1
  have b0 := h.b0
  have b1 : f.block < (m.funcs.getD f.f.toNat default).blocks.length := h.b1
  have a0 := h.a0
  have a1 : f.at_ ≤ ((m.funcs.getD f.f.toNat default).blocks.getD f.block.toNat default).ins.length := h.a1
  have hg : (f.regs.length : Int) = (m.funcs.getD f.f.toNat default).regs := h.regs
  generalize m.funcs.getD f.f.toNat default = F at *
  (repeat' first | refine Zac ?_ | (refine Zab tok (by rfl) ?_; conv => whnf))
  refine .inl ⟨_, _, _, uG (QC.fc h1 rfl), ?_⟩
  conv => whnf
  ((repeat' first | refine Zac ?_ | (refine Zab tok (by rfl) ?_; conv => whnf) | (refine Zap tok mix (by rfl) ?_; conv => whnf) | (refine Zag ?_; conv => whnf) | (refine Zaj ?_; conv => whnf) | refine Zaf rfl (fun hb => ?_) (fun hb => ?_) | (refine @And.intro (Zaa _ _ _ _) _ ?_ ?_; rotate_left; (conv => whnf); rotate_right)); all_goals (try ((guard_target = Zaa _ _ _ _); ((refine Za7 ?_; intro hgd; (conv at hgd => whnf))); (all_goals (try simp only [Zaa, kzz, kz11, kz12, maxL, Zad] at *)); all_goals omega)))
  · exfalso
    rw [decide_eq_false (show ¬ f.block < 0 by omega), decide_eq_false (show ¬ (F.blocks.length : Int) ≤ f.block by omega), decide_eq_true hg] at hb
    cases hb
  · refine ⟨_, rfl, Rel.bool ?_⟩
    rw [decide_eq_true a0, decide_eq_true a1]; rfl
end Go.Proofs.Ytoelbgjpmpoolaa
namespace Go.Proofs.Ytoelbgjpmpoolaa
open Go Dv
set_option maxRecDepth 10000
set_option linter.unusedSimpArgs false
theorem c_fAns (f : Zaw) (x : Ins) (h1 : 1 ≤ x.op) (h8 : x.op ≤ 8) (ha : 1 < x.op → 0 ≤ x.a ∧ x.a < f.regs.length) (hb' : 2 < x.op → 0 ≤ x.b ∧ x.b < f.regs.length) :
    FC Try.prog 51 [.agg (Zbd f), .agg (Zbi x)] (.tup [.int .u16 (reckV f x).1, .bool (reckV f x).2]) := by
  refine Zax tok Try.func51 rfl (by decide +kernel) (Nat.le_of_ble_eq_true rfl) ?_
  have hat : ∀ n, (0 ≤ n ∧ n < (f.regs.length : Int)) → FC Try.prog 52 [.agg (Zbd f), iv n] (.tup [.int .u16 (f.regs.getD n.toNat 0), .bool true]) := fun n h => by
    have := c_fAt f n
    rw [show thereB f n = true from decide_eq_true h, if_pos rfl] at this; exact this
  by_cases h2 : 1 < x.op
  · have hA := hat x.a (ha h2)
    (repeat' ((fail_if_success (show AWp _ _ _ (Code.region 2 _ _) _ _)); (fail_if_success (show AWp _ _ _ (Code.region 3 _ _) _ _)); first | refine Zac ?_ | (refine Zab tok (by rfl) ?_; conv => whnf) | (refine Zag ?_; conv => whnf) | refine Zaf rfl (fun hb => ?_) (fun hb => ?_)))
    · exfalso; simp at hb; omega
    clear hb
    have hV : reckV f x = doW x.op (f.regs.getD x.a.toNat 0) (if 2 < x.op then f.regs.getD x.b.toNat 0 else 0) := if_neg (by omega)
    rw [hV]
    (repeat' (refine Zab tok (by rfl) ?_; conv => whnf))
    refine .inl ⟨_, _, _, uG (QC.fc hA rfl), ?_⟩
    conv => whnf
    (repeat' first | refine Zac ?_ | (refine Zab tok (by rfl) ?_; conv => whnf))
    refine .inl ⟨_, _, _, uG (QC.fc (c_Two x.op) rfl), ?_⟩
    conv => whnf
    (repeat' ((fail_if_success (show AWp _ _ _ (Code.region 6 _ _) _ _)); (fail_if_success (show AWp _ _ _ (Code.region 7 _ _) _ _)); first | refine Zac ?_ | (refine Zag ?_; conv => whnf) | refine Zaf rfl (fun hb => ?_) (fun hb => ?_)))
    · have h3 : 2 < x.op := by
        have : twoO x.op = true := by simpa using hb
        unfold twoO at this
        cases e : decide (2 < x.op) with
        | true => simpa using e
        | false => rw [e] at this; cases this
      clear hb
      rw [if_pos h3]
      (repeat' (refine Zab tok (by rfl) ?_; conv => whnf))
      refine .inl ⟨_, _, _, uG (QC.fc (hat x.b (hb' h3)) rfl), ?_⟩
      conv => whnf
      (repeat' ((fail_if_success (show AWp _ _ _ (Code.region 8 _ _) _ _)); (fail_if_success (show AWp _ _ _ (Code.region 9 _ _) _ _)); first | refine Zac ?_ | (refine Zab tok (by rfl) ?_; conv => whnf) | (refine Zag ?_; conv => whnf) | refine Zaf rfl (fun hb => ?_) (fun hb => ?_)))
      · cases hb
      clear hb
      (repeat' (refine Zab tok (by rfl) ?_; conv => whnf))
      refine .inl ⟨_, _, _, uG (QC.fc (c_Do x.op (f.regs.getD x.a.toNat 0) (f.regs.getD x.b.toNat 0)) rfl), ?_⟩
      conv => whnf
      (repeat' (refine Zaj ?_; conv => whnf))
      exact ⟨_, rfl, Rel.tup (.cons (Rel.imm rfl) (.cons (Rel.imm rfl) .nil))⟩
    · have h3 : ¬ 2 < x.op := by
        have : twoO x.op = false := by simpa using hb
        unfold twoO at this
        intro h
        rw [decide_eq_true h, cond_true, decide_eq_true h8] at this; cases this
      clear hb
      rw [if_neg h3]
      (repeat' ((fail_if_success (show AWp _ _ _ (Code.region 8 _ _) _ _)); (fail_if_success (show AWp _ _ _ (Code.region 9 _ _) _ _)); first | refine Zac ?_ | (refine Zab tok (by rfl) ?_; conv => whnf) | (refine Zag ?_; conv => whnf) | refine Zaf rfl (fun hb => ?_) (fun hb => ?_)))
      · cases hb
      clear hb
      (repeat' (refine Zab tok (by rfl) ?_; conv => whnf))
      refine .inl ⟨_, _, _, uG (QC.fc (c_Do x.op (f.regs.getD x.a.toNat 0) 0) rfl), ?_⟩
      conv => whnf
      (repeat' (refine Zaj ?_; conv => whnf))
      exact ⟨_, rfl, Rel.tup (.cons (Rel.imm rfl) (.cons (Rel.imm rfl) .nil))⟩
  · have h2' : x.op = 1 := by omega
    have hV : reckV f x = (x.k, true) := if_pos h2'
    rw [hV]
    (repeat' first | refine Zac ?_ | (refine Zab tok (by rfl) ?_; conv => whnf) | (refine Zag ?_; conv => whnf) | (refine Zaj ?_; conv => whnf) | refine Zaf rfl (fun hb => ?_) (fun hb => ?_))
    · exact ⟨_, rfl, Rel.tup (.cons (Rel.imm rfl) (.cons (Rel.imm rfl) .nil))⟩
    all_goals (exfalso; rw [h2'] at hb; cases hb)
abbrev r0 : Dv.Id := (905, 0, 0)
def regB (l : List Int) : Zam := .row true 1 l.length (fun x => [.int .u16 (l.getD x 0)])
def oneR (l : List Int) : Zao := orH (Zay [(r0, regB l)]) noH
def frO (f : Zaw) (r : AV) : List AV := [iv f.f, iv f.block, iv f.at_, r, .int .u16 f.fly]
theorem leaveR {h : Zao} {hl : List (Dv.Id × Zam)} {F : Zao} (S : List (Dv.Id × Option Dv.Id)) (hn : Zcl (tgts S) = true) (hf : ∀ i ∈ tgts S, orH (Zay hl) F i = none ∨ i ∈ S.map (·.1)) (hh : HLs (srcL S) h (orH (Zay hl) F) hl)
    (hF : ∀ j b, F j = some b → HOk (srcL S) h (orH (Zay hl) F) j b) :
    (∀ j j' i, (orH (Zay hl) F j).isSome = true → (orH (Zay hl) F j').isSome = true → srcL S j = some i → srcL S j' = some i → j = j') ∧ ∀ j b, orH (Zay hl) F j = some b → HOk (srcL S) h (orH (Zay hl) F) j b :=
  ⟨Zeu hn hf, fun j b e => by
    rcases orH_some e with e1 | ⟨_, e1⟩
    · exact hh.spec e1
    · exact hF j b e1⟩
theorem c_copied (f : Zaw) : HF Try.prog 43 [.agg (Zbd f)] (.agg (frO f (.rs r0 1 0 f.regs.length))) (oneR f.regs) := by
  refine Zfz tok Try.func43 rfl (by decide +kernel) (Nat.le_of_ble_eq_true rfl) ?_
  (repeat' first | refine Zac ?_ | (refine Zab tok (by rfl) ?_; conv => whnf))
  refine .inl ⟨_, _, _, uG (QC.fo (rd := []) (Zfx f.regs) (Ress.imms rfl) (.inl rfl) rfl), ?_⟩
  conv => whnf
  (repeat' first | refine Zac ?_ | (refine Zab tok (by rfl) ?_; conv => whnf) | (refine Zaj ?_; conv => whnf))
  refine ⟨_, srcL [(r0, some (5, 0, 0))], rfl, ?_⟩
  rw [← and_assoc]
  refine ⟨leaveR [(r0, some (5, 0, 0))] rfl (fun c hc => ?_) (.old rfl rfl (GB.rowI (Nat.le_refl _) (fun q hq => ⟨rfl, rfl⟩)) .nil) (fun j b e => by cases e), .agg (.cons (.imm rfl) (.cons (.imm rfl) (.cons (.imm rfl) (.cons (.rs rfl rfl rfl rfl) (.cons (.imm rfl) .nil)))))⟩
  simp only [tgts, List.mem_cons, List.not_mem_nil, or_false] at hc
  subst hc; exact .inl rfl
theorem Zcz {l : List Int} {i : Dv.Id} (h : (oneR l i).isSome = true) : i = r0 := by
  unfold oneR orH noH at h
  simp only [Zay] at h
  cases e : idEq r0 i with
  | true => exact (Zav.1 e).symm
  | false => rw [e] at h; cases h
theorem c_Go (f : Zaw) (b : Int) : HF Try.prog 30 [.agg (Zbd f), iv b] (.agg (frO { f with block := b, at_ := 0 } (.rs r0 1 0 f.regs.length))) (oneR f.regs) := by
  refine Zfz tok Try.func30 rfl (by decide +kernel) (Nat.le_of_ble_eq_true rfl) ?_
  (repeat' first | refine Zac ?_ | (refine Zab tok (by rfl) ?_; conv => whnf))
  refine .inr ⟨_, _, _, uG (QH.ofF (c_copied f) rfl (fun i hi => by rw [Zcz hi]; rfl)), ?_⟩
  conv => whnf
  (repeat' first | refine Zac ?_ | (refine Zab tok (by rfl) ?_; conv => whnf) | (refine Zaj ?_; conv => whnf))
  refine ⟨_, srcL [], rfl, ?_⟩
  rw [← and_assoc]
  refine ⟨leaveR [] rfl (fun c hc => by cases hc) (.old rfl rfl (GB.rowI (Nat.le_refl _) (fun q hq => ⟨rfl, rfl⟩)) .nil) (fun j b e => by cases e), .agg (.cons (.imm rfl) (.cons (.imm rfl) (.cons (.imm rfl) (.cons (.rs rfl rfl rfl rfl) (.cons (.imm rfl) .nil)))))⟩
end Go.Proofs.Ytoelbgjpmpoolaa
namespace Go.Proofs.Ytoelbgjpmpoolaa
open Go Dv
set_option maxRecDepth 10000
set_option linter.unusedSimpArgs false
abbrev r1 : Dv.Id := (906, 0, 0)
set_option maxHeartbeats 2000000 in
theorem c_fReckon (f : Zaw) (x : Ins) (hat0 : 0 ≤ f.at_) (hat : f.at_ < 1000000) (h1 : 1 ≤ x.op) (h8 : x.op ≤ 8) (hd : 0 ≤ x.dst ∧ x.dst < f.regs.length) (ha : 1 < x.op → 0 ≤ x.a ∧ x.a < f.regs.length) (hb' : 2 < x.op → 0 ≤ x.b ∧ x.b < f.regs.length) :
    HF Try.prog 41 [.agg (Zbd f), .agg (Zbi x)] (.tup [.agg (frO (Zdg f x).1 (.rs r0 1 0 (Zdg f x).1.regs.length)), .bool (Zdg f x).2]) (oneR (Zdg f x).1.regs) := by
  refine Zfz tok Try.func41 rfl (by decide +kernel) (Nat.le_of_ble_eq_true rfl) ?_
  refine Za1 0 (fun hl => ?_)
  have hl0 : f.regs.length ≤ maxL := hl.2.2.2.1.1
  have hmx : maxL = 4294967296 := rfl
  clear hl
  have hT : FC Try.prog 52 [.agg (Zbd f), iv x.dst] (.tup [.int .u16 (f.regs.getD x.dst.toNat 0), .bool true]) := by
    have := c_fAt f x.dst
    rw [show thereB f x.dst = true from decide_eq_true hd, if_pos rfl] at this; exact this
  have hA := c_fAns f x h1 h8 ha hb'
  (repeat' first | refine Zac ?_ | (refine Zab tok (by rfl) ?_; conv => whnf))
  refine .inr ⟨_, _, _, uG (QH.ofF (c_copied f) rfl (fun i hi => by rw [Zcz hi]; rfl)), ?_⟩
  conv => whnf
  (repeat' first | refine Zac ?_ | (refine Zab tok (by rfl) ?_; conv => whnf))
  refine .inl ⟨_, _, _, uG (QC.sc (rd := [r0]) hA (.cons (.agg (.cons (.imm rfl) (.cons (.imm rfl) (.cons (.imm rfl) (.cons (.row rfl (.head _) rfl rfl (fun _ _ => rfl)) (.cons (.imm rfl) .nil)))))) (.cons (.imm rfl) .nil)) rfl), ?_⟩
  conv => whnf
  (repeat' first | refine Zac ?_ | (refine Zab tok (by rfl) ?_; conv => whnf))
  refine .inl ⟨_, _, _, uG (QC.sc (rd := [r0]) hT (.cons (.agg (.cons (.imm rfl) (.cons (.imm rfl) (.cons (.imm rfl) (.cons (.row rfl (.head _) rfl rfl (fun _ _ => rfl)) (.cons (.imm rfl) .nil)))))) (.cons (.imm rfl) .nil)) rfl), ?_⟩
  conv => whnf
  (repeat' ((fail_if_success (show AWp _ _ _ (Code.region 5 _ _) _ _)); (fail_if_success (show AWp _ _ _ (Code.region 6 _ _) _ _)); first | refine Zac ?_ | (refine Zab tok (by rfl) ?_; conv => whnf) | (refine Zag ?_; conv => whnf) | refine Zaf rfl (fun hb => ?_) (fun hb => ?_)))
  · have hv : Zdg f x = (f, false) := if_neg (by simpa using hb)
    rw [hv]
    (repeat' first | (refine Zab tok (by rfl) ?_; conv => whnf) | (refine Zaj ?_; conv => whnf))
    refine ⟨_, srcL [], rfl, ?_⟩
    rw [← and_assoc]
    exact ⟨leaveR [] rfl (fun c hc => by cases hc) (.old rfl rfl (GB.rowI (Nat.le_refl _) (fun q hq => ⟨rfl, rfl⟩)) .nil) (fun j b e => by cases e), .tup (.cons (.agg (.cons (.imm rfl) (.cons (.imm rfl) (.cons (.imm rfl) (.cons (.rs rfl rfl rfl rfl) (.cons (.imm rfl) .nil)))))) (.cons (.imm rfl) .nil))⟩
  · have hv : Zdg f x = ({ frW f x.dst (reckV f x).1 with at_ := f.at_ + 1 }, true) := if_pos (by simpa using hb)
    rw [hv]
    have hz : x.dst.toNat < f.regs.length := by omega
    have hlen : (frW f x.dst (reckV f x).1).regs.length = f.regs.length := by simp [frW]
    ((repeat' first | refine Zac ?_ | (refine Zab tok (by rfl) ?_; conv => whnf) | (refine Zaj ?_; conv => whnf) | (refine @And.intro (Zaa _ _ _ _) _ ?_ ?_; rotate_left; (conv => whnf); rotate_right)); all_goals (try ((guard_target = Zaa _ _ _ _); refine Zae ?_; (all_goals (try simp only [Zaa, kzz, kz11, kz12, maxL, Zad] at *)); all_goals omega)))
    refine ⟨_, srcL [], rfl, ?_⟩
    rw [← and_assoc]
    refine ⟨leaveR [] rfl (fun c hc => by cases hc) (.old rfl rfl (GB.rowI (Nat.le_of_eq hlen) (fun q hq => ⟨?_, ?_⟩)) .nil) (fun j b e => by cases e), .tup (.cons (.agg (.cons (.imm rfl) (.cons (.imm rfl) (.cons (.int (Zal (by omega) (by omega))) (.cons (.rs rfl rfl rfl hlen.symm) (.cons (.imm rfl) .nil)))))) (.cons (.imm rfl) .nil))⟩
    · rw [Nat.zero_add, rowSet (l := f.regs) hz]; rfl
    · rw [Nat.zero_add]; exact rowSet (l := f.regs) hz
set_option maxHeartbeats 2000000 in
theorem c_fLand (m : Zai) (f : Zaw) (pad w : Int) (hr : Zbj m = true) (hF : OkF m f) (p0 : 0 ≤ pad) (p1 : pad < (m.funcs.getD f.f.toNat default).blocks.length) (hl : (padOf m f pad).landing = true)
    (hd : 0 ≤ (padOf m f pad).pad.dst ∧ (padOf m f pad).pad.dst < f.regs.length) :
    HF Try.prog 48 [.agg (Zbf m), .agg (Zbd f), iv pad, .int .u16 w] (.tup [.agg (frO (landF m f pad w) (.rs r0 1 0 (landF m f pad w).regs.length)), iv 0]) (oneR (landF m f pad w).regs) := by
  refine Zfz tok Try.func48 rfl (by decide +kernel) (Nat.le_of_ble_eq_true rfl) ?_
  refine Za1 1 (fun hl => ?_)
  have hl0 : f.regs.length ≤ maxL := hl.2.2.2.1.1
  have hmx : maxL = 4294967296 := rfl
  clear hl
  have hRt := c_fRight m f hr hF
  have hG : FC Try.prog 21 [.agg (Zbf m), .agg (Zbd f)] (.bool true) := hRt
  have f0 := hF.f0
  have f1 := hF.f1
  have hz : (padOf m f pad).pad.dst.toNat < f.regs.length := by omega
  have hlen : (landF m f pad w).regs.length = f.regs.length := by simp [landF, frW]
  unfold padOf at hl hd hz
  (repeat' first | refine Zac ?_ | (refine Zab tok (by rfl) ?_; conv => whnf))
  refine .inr ⟨_, _, _, uG (QH.ofF (c_copied f) rfl (fun i hi => by rw [Zcz hi]; rfl)), ?_⟩
  conv => whnf
  (repeat' first | refine Zac ?_ | (refine Zab tok (by rfl) ?_; conv => whnf))
  refine .inl ⟨_, _, _, uG (QC.sc (rd := [r0]) hRt (.cons (.imm rfl) (.cons (.agg (.cons (.imm rfl) (.cons (.imm rfl) (.cons (.imm rfl) (.cons (.row rfl (.head _) rfl rfl (fun _ _ => rfl)) (.cons (.imm rfl) .nil)))))) .nil)) rfl), ?_⟩
  conv => whnf
  ((repeat' ((fail_if_success (show AWp _ _ _ (Code.region 3 _ _) _ _)); (fail_if_success (show AWp _ _ _ (Code.region 4 _ _) _ _)); first | refine Zac ?_ | (refine Zag ?_; conv => whnf) | refine Zaf rfl (fun hb => ?_) (fun hb => ?_) | (refine @And.intro (Zaa _ _ _ _) _ ?_ ?_; rotate_left; (conv => whnf); rotate_right))); all_goals (try ((guard_target = Zaa _ _ _ _); ((refine Za7 ?_; intro hgd; (conv at hgd => whnf))); (all_goals (try simp only [Zaa, kzz, kz11, kz12, maxL, Zad] at *)); all_goals omega)))
  · exfalso
    rw [decide_eq_false (show ¬ pad < 0 by omega), decide_eq_false (show ¬ ((m.funcs.getD f.f.toNat default).blocks.length : Int) ≤ pad by omega), hl] at hb
    cases hb
  clear hb
  refine Zau (Weak.fam (L := []) (tl := [(2, iv pad), (3, .int .u16 w), (4, .bp (4, 0, 0) 0), (5, .bp (5, 0, 0) 0), (8, .bp (8, 0, 0) 0)]) (hl := [((4, 0, 0), Za6 (Zbf m)), ((5, 0, 0), .row false 5 1 (fun _ => frO f (.rs r1 1 0 f.regs.length))), ((8, 0, 0), Za6 [iv 0, iv 0, iv 0, .nsl, .int .u16 0]), ((906, 0, 0), regB f.regs)]) (F := noH) [(r1, some r0)] rfl (fun c hc => ?_) ?_ ?_ noF (fun i hi => by cases hi)) ?_
  · simp only [tgts, List.mem_cons, List.not_mem_nil, or_false] at hc
    subst hc; exact .inl rfl
  · (repeat' first | exact TLg.nil | refine TLg.cons (GV.imm rfl) ?_ | refine TLg.cons (GV.bp rfl rfl) ?_)
    all_goals rfl
  · exact .old rfl rfl (GB.one (GVs.imm rfl) (fun _ => rfl)) (.old rfl rfl (GB.one (.cons (.imm rfl) (.cons (.imm rfl) (.cons (.imm rfl) (.cons (.rs rfl rfl rfl rfl) (.cons (.imm rfl) .nil))))) (fun e => by cases e)) (.old rfl rfl (GB.one (GVs.imm rfl) (fun _ => rfl)) (.old rfl rfl (GB.rowI (Nat.le_refl _) (fun q hq => ⟨rfl, rfl⟩)) .nil)))
  (repeat' (refine Zab tok (by rfl) ?_; conv => whnf))
  refine .inr ⟨_, _, _, uG (QH.lendF (rd := [r1]) (c_Go f pad) (.cons (.agg (.cons (.imm rfl) (.cons (.imm rfl) (.cons (.imm rfl) (.cons (.row rfl (.head _) rfl rfl (fun _ _ => rfl)) (.cons (.imm rfl) .nil)))))) (.cons (.imm rfl) .nil)) (fun i hi => by rw [Zcz hi]; rfl) rfl (fun j b e => by
    have := Zcz (i := j) (by rw [e]; rfl)
    subst this; cases e; exact fun i hi => rfl)), ?_⟩
  conv => whnf
  ((repeat' first | refine Zac ?_ | (refine Zab tok (by rfl) ?_; conv => whnf) | (refine Zap tok mix (by rfl) ?_; conv => whnf) | (refine Zaj ?_; conv => whnf) | (refine @And.intro (Zaa _ _ _ _) _ ?_ ?_; rotate_left; (conv => whnf); rotate_right)); all_goals (try ((guard_target = Zaa _ _ _ _); refine Zae ?_; (all_goals (try simp only [Zaa, kzz, kz11, kz12, maxL, Zad] at *)); all_goals omega)))
  refine ⟨_, srcL [], rfl, ?_⟩
  rw [← and_assoc]
  refine ⟨leaveR [] rfl (fun c hc => by cases hc) (.old rfl rfl (GB.rowI (Nat.le_of_eq hlen) (fun q hq => ⟨?_, ?_⟩)) .nil) (fun j b e => by cases e), .tup (.cons (.agg (.cons (.imm rfl) (.cons (.imm rfl) (.cons (.imm rfl) (.cons (.rs rfl rfl rfl hlen.symm) (.cons (.imm rfl) .nil)))))) (.cons (.imm rfl) .nil))⟩
  · rw [Nat.zero_add, rowSet (l := f.regs) hz]; rfl
  · rw [Nat.zero_add]; exact rowSet (l := f.regs) hz
end Go.Proofs.Ytoelbgjpmpoolaa
namespace Go.Proofs.Ytoelbgjpmpoolaa
open Go Dv
set_option maxRecDepth 10000
set_option linter.unusedSimpArgs false
def goOn (f : Zaw) : Zaw := { f with at_ := f.at_ + 1 }
def cellN (f : Zaw) (x : Ins) : Nat := (f.regs.getD x.a.toNat 0).toNat
def insM (m : Zai) (s : Mach) (f : Zaw) (x : Ins) : Mach :=
  if x.op = 11 then Zb0 m s x.f x.args
  else if x.op ≤ 8 then (if (Zdg f x).2 = true then Zbu s (Zdg f x).1 else endM s 3 0)
  else if x.op = 9 then (if 16 ≤ f.regs.getD x.a.toNat 0 then endM s 4 0 else Zbu s (goOn (frW f x.dst (s.cells.getD (cellN f x) 0))))
  else if x.op = 10 then (if 16 ≤ f.regs.getD x.a.toNat 0 then endM s 4 0 else Zbu { s with cells := s.cells.set (cellN f x) (f.regs.getD x.b.toNat 0) } (goOn f))
  else if x.op = 12 then Zbu { s with events := s.events ++ [f.regs.getD x.a.toNat 0] } (goOn f)
  else if x.op = 13 then (if s.inputs.length = 0 then endM s 6 0 else Zbu { s with inputs := s.inputs.drop 1, events := s.events ++ [s.inputs.getD 0 0 + 65536] } (goOn (frW f x.dst (s.inputs.getD 0 0))))
  else Zbu s (goOn f)
def evM (s : Mach) (e : Int) : Mach := { s with events := s.events ++ [e] }
theorem appI {k z : Nat} {l : List Int} {v v' : Int} {F : Nat → List AV} (hk : k = l.length) (hz : z < l.length + 1) (hv : v' = v) (hF : ∀ i, i < l.length → F i = [iv (l.getD i 0)]) : appR k F (fun i => rowOf 1 [iv v'] (0 + i)) z = [iv ((l ++ [v]).getD z 0)] := by
  subst hk; subst hv
  unfold appR
  by_cases e : z < l.length
  · rw [show Nat.blt z l.length = true from by rw [Nat.blt_eq]; exact e, cond_true, hF z e]
    simp [List.getD_eq_getElem?_getD, List.getElem?_append_left e]
  · have e2 : z = l.length := by omega
    subst e2
    rw [show Nat.blt l.length l.length = false from by rw [Bool.eq_false_iff]; intro h; rw [Nat.blt_eq] at h; omega, cond_false, Nat.sub_self]
    have e4 : (l ++ [v']).getD l.length 0 = v' := by simp [List.getD_eq_getElem?_getD]
    rw [e4]; rfl
end Go.Proofs.Ytoelbgjpmpoolaa
namespace Go.Proofs.Ytoelbgjpmpoolaa
open Go Dv
set_option maxRecDepth 10000
set_option linter.unusedSimpArgs false
def inM (s : Mach) : Mach := { evM s (s.inputs.getD 0 0 + 65536) with inputs := s.inputs.drop 1 }
theorem wk_drop {l : List Int} {n : Nat} {F : Nat → List AV} (hl : ¬ l.length = 0) (hn : n = l.length - 1) (hF : ∀ i, F i = [.int .u16 (l.getD (1 + i) 0)]) : Wk (.sl 1 n F) (u16s (l.drop 1)) := by
  subst hn
  refine .sl (by simp) (fun i hi => ?_)
  rw [hF i, List.getD_eq_getElem?_getD, List.getD_eq_getElem?_getD, List.getElem?_drop]
end Go.Proofs.Ytoelbgjpmpoolaa
namespace Go.Proofs.Ytoelbgjpmpoolaa
open Go Dv
set_option maxRecDepth 10000
set_option linter.unusedSimpArgs false
end Go.Proofs.Ytoelbgjpmpoolaa
namespace Go.Proofs.Ytoelbgjpmpoolaa
open Go Dv
set_option maxRecDepth 10000
set_option linter.unusedSimpArgs false
def stM (s : Mach) (k : Nat) (v : Int) : Mach := { s with cells := s.cells.set k v }
theorem wkc {l : List Int} {v : Int} {k j : Nat} (h : k ≠ j) : Wk (cw l j) (cw (l.set k v) j) := by
  unfold cw; rw [getD_set, if_neg (fun e => h e.1)]; exact .refl
theorem wks {l : List Int} {v : Int} {k : Nat} (h : k < l.length) : Wk (.int .u16 v) (cw (l.set k v) k) := by
  unfold cw; rw [getD_set, if_pos ⟨rfl, h⟩]; exact .refl
end Go.Proofs.Ytoelbgjpmpoolaa
namespace Go.Proofs.Ytoelbgjpmpoolaa
open Go Dv
set_option maxRecDepth 10000
set_option linter.unusedSimpArgs false
def newM (m : Zai) (inputs : List Int) : Mach := ⟨[frN m 0 []], List.replicate 16 0, inputs, [], 0, 0⟩
end Go.Proofs.Ytoelbgjpmpoolaa
namespace Go.Proofs.Ytoelbgjpmpoolaa
open Go Dv
set_option maxRecDepth 10000
set_option linter.unusedSimpArgs false
def regA (f : Zaw) (p : Int) : Int := f.regs.getD p.toNat 0
def goF (b : Ze1) (f : Zaw) : Zaw := { f with block := if b.fin.kind = 3 ∧ regA f b.fin.a = 0 then b.fin.els else b.fin.to, at_ := 0 }
def stepE (m : Zai) (s : Mach) (f : Zaw) (b : Ze1) : Mach :=
  if endB m f = false then insM m s f (b.ins.getD f.at_.toNat default)
  else if b.fin.kind = 1 then Zbq m s (regA f b.fin.a)
  else if b.fin.kind = 4 then Zb0 m s b.fin.f b.fin.args
  else if b.fin.kind = 5 then Zbc m s (regA f b.fin.a)
  else if b.fin.kind = 6 then Zbc m s f.fly
  else Zbu s (goF b f)
def Zch (m : Zai) (s : Mach) : Mach := if s.done = 0 then stepE m s (topF s) (Zas m (topF s)) else s
end Go.Proofs.Ytoelbgjpmpoolaa
namespace Go.Proofs.Ytoelbgjpmpoolaa
open Go Dv
set_option maxRecDepth 10000
set_option linter.unusedSimpArgs false
def runM (m : Zai) (inputs : List Int) : Nat → Mach
  | 0 => newM m inputs
  | k + 1 => Zch m (runM m inputs k)
theorem run_done {m : Zai} {inputs : List Int} {i : Nat} (h : ¬ (runM m inputs i).done = 0) : ∀ k, runM m inputs (i + k) = runM m inputs i
  | 0 => rfl
  | k + 1 => by
      show Zch m (runM m inputs (i + k)) = _
      rw [run_done h k]
      exact if_neg h
end Go.Proofs.Ytoelbgjpmpoolaa
namespace Go.Proofs.Ytoelbgjpmpoolaa
open Go Dv
set_option maxRecDepth 10000
set_option linter.unusedSimpArgs false
def Zbw (m : Zai) (f : Zaw) : Ins := (Zas m f).ins.getD f.at_.toNat default
structure CallF (m : Zai) (f : Zaw) : Prop where
  fin : endB m f = true → (Zas m f).fin.kind = 4
  ins : endB m f = false → (Zbw m f).op = 11
structure OkM (m : Zai) (s : Mach) : Prop where
  cells : s.cells.length = 16
  fr : ∀ f ∈ s.stack, OkF m f
  ca : ∀ f ∈ s.stack.take (s.stack.length - 1), CallF m f
  len : s.stack.length ≤ 32
  pos : s.done = 0 → 0 < s.stack.length
  inp : (∀ x ∈ s.inputs, 0 ≤ x ∧ x ≤ 65535) ∧ s.inputs.length < 1000000
theorem okF_ins {m : Zai} {f : Zaw} (hr : Zbj m = true) (h : OkF m f) (he : endB m f = false) : f.at_.toNat < (Zas m f).ins.length ∧ InsP m (Zdk m f) (Zbw m f) := by
  have h1 : ¬ f.at_ = (Zas m f).ins.length := by unfold endB at he; simpa using he
  have h2 := h.a0
  have h3 := h.a1
  have hl : f.at_.toNat < (Zas m f).ins.length := by omega
  refine ⟨hl, ?_⟩
  have := okF_blk hr h h.b0 h.b1
  unfold blkB at this
  rw [Bool.and_eq_true, List.all_eq_true] at this
  have := this.2 _ (Zc2 (default : Ins) hl)
  simpa [Zbw, Zas] using this
theorem okF_funP {m : Zai} {f : Func} (h : funcB m f = true) : FunP f := by
  unfold funcB at h; rw [Bool.and_eq_true, decide_eq_true_eq] at h; exact h.1
theorem okF_new {m : Zai} {n : Int} {args : List Int} (hr : Zbj m = true) (h0 : 0 ≤ n) (h1 : n < m.funcs.length) : OkF m (frN m n args) := by
  have hP := okF_funP (Zev hr (show n.toNat < m.funcs.length by omega))
  obtain ⟨p0, p1, p2, p3, p4, p5, p6⟩ := hP
  refine ⟨h0, h1, Int.le_refl _, ?_, Int.le_refl _, ?_, ?_⟩
  · show (0 : Int) < ((m.funcs.getD n.toNat default).blocks.length : Int); omega
  · exact Int.natCast_nonneg _
  · show (((List.range (m.funcs.getD n.toNat default).regs.toNat).map (regN args)).length : Int) = (m.funcs.getD n.toNat default).regs
    rw [List.length_map, List.length_range]; omega
theorem okF_W {m : Zai} {f : Zaw} (h : OkF m f) (n w : Int) : OkF m (frW f n w) := ⟨h.f0, h.f1, h.b0, h.b1, h.a0, h.a1, by rw [show (frW f n w).regs.length = f.regs.length by simp [frW]]; exact h.regs⟩
theorem okF_to {m : Zai} {f : Zaw} (h : OkF m f) {b : Int} (b0 : 0 ≤ b) (b1 : b < (Zdk m f).blocks.length) : OkF m { f with block := b, at_ := 0 } :=
  ⟨h.f0, h.f1, b0, b1, Int.le_refl _, Int.natCast_nonneg _, h.regs⟩
theorem okF_next {m : Zai} {f : Zaw} (h : OkF m f) (he : endB m f = false) : OkF m { f with at_ := f.at_ + 1 } := by
  have h1 : ¬ f.at_ = (Zas m f).ins.length := by unfold endB at he; simpa using he
  have h2 := h.a0
  have h3 := h.a1
  exact ⟨h.f0, h.f1, h.b0, h.b1, by show 0 ≤ f.at_ + 1; omega, by show f.at_ + 1 ≤ ((Zas m f).ins.length : Int); omega, h.regs⟩
theorem goal_inM {f : Func} {n : Int} (h : goalB f n = true) : 0 ≤ n ∧ n < f.blocks.length := by
  unfold goalB at h
  cases h2 : inn n f.blocks.length with
  | false => rw [h2] at h; cases h
  | true => exact (Zad _ _).1 h2
theorem Zec {m : Zai} {s : Mach} (h : OkM m s) {f : Zaw} (hf : OkF m f) (hp : 0 < s.stack.length) : OkM m (Zbu s f) := by
  have hl : (Zbu s f).stack.length = s.stack.length := by simp [Zbu]; omega
  have ht : (Zbu s f).stack.take ((Zbu s f).stack.length - 1) = s.stack.take (s.stack.length - 1) := by
    rw [hl]; show (s.stack.take (s.stack.length - 1) ++ [f]).take _ = _
    rw [List.take_append_of_le_length (by simp), List.take_take, Nat.min_self]
  refine ⟨h.cells, fun g hg => ?_, by rw [ht]; exact h.ca, by rw [hl]; exact h.len, fun _ => by rw [hl]; exact hp, h.inp⟩
  rcases List.mem_append.1 hg with hg | hg
  · exact h.fr g (List.mem_of_mem_take hg)
  · rw [List.mem_singleton.1 hg]; exact hf
theorem okM_end {m : Zai} {s : Mach} (h : OkM m s) {how w : Int} (hh : how ≠ 0) : OkM m (endM s how w) := ⟨h.cells, h.fr, h.ca, h.len, fun e => absurd e hh, h.inp⟩
theorem okM_take {m : Zai} {s : Mach} (h : OkM m s) (k : Nat) (hk : k ≤ s.stack.length) (hp : s.done = 0 → 0 < k) : OkM m (Zdf s k) := by
  have hl : (Zdf s k).stack.length = k := by simp [Zdf]; omega
  refine ⟨h.cells, fun g hg => h.fr g (List.mem_of_mem_take hg), fun g hg => h.ca g ?_, by rw [hl]; have := h.len; omega, fun e => by rw [hl]; exact hp e, h.inp⟩
  rw [hl] at hg
  have : (Zdf s k).stack.take (k - 1) = (s.stack.take (s.stack.length - 1)).take (k - 1) := by
    show (s.stack.take k).take (k - 1) = _
    rw [List.take_take, List.take_take, show min (k - 1) k = min (k - 1) (s.stack.length - 1) by omega]
  rw [this] at hg
  exact List.mem_of_mem_take hg
theorem popM_eq (s : Mach) : popM s = Zdf s (s.stack.length - 1) := rfl
theorem top_mem {s : Mach} (h : 0 < s.stack.length) : topF s ∈ s.stack := Zc2 _ (by omega)
theorem okM_called {m : Zai} {s : Mach} (hr : Zbj m = true) (h : OkM m s) {n : Int} {places : List Int} (h0 : 0 ≤ n) (h1 : n < m.funcs.length) (hp : 0 < s.stack.length) (hc : CallF m (topF s)) : OkM m (Zb0 m s n places) := by
  unfold Zb0
  split
  · exact okM_end h (by decide)
  · rename_i h32
    refine ⟨h.cells, fun g hg => ?_, fun g hg => ?_, by simp; omega, fun _ => by simp, h.inp⟩
    · rcases List.mem_append.1 hg with hg | hg
      · exact h.fr g hg
      · rw [List.mem_singleton.1 hg]; exact okF_new hr h0 h1
    · have hg2 : g ∈ s.stack := by
        have e : (s.stack ++ [frN m n (Zc4 (topF s) places)]).take ((s.stack ++ [frN m n (Zc4 (topF s) places)]).length - 1) = s.stack := by
          rw [List.length_append]; simp
        rw [← e]; exact hg
      have e : s.stack = s.stack.take (s.stack.length - 1) ++ [topF s] := by
        have e1 : s.stack.take (s.stack.length - 1 + 1) = s.stack.take (s.stack.length - 1) ++ [s.stack.getD (s.stack.length - 1) default] := by
          rw [List.take_add_one, List.getD_eq_getElem?_getD, List.getElem?_eq_getElem (by omega)]; rfl
        rw [show s.stack.length - 1 + 1 = s.stack.length by omega, List.take_length] at e1
        exact e1
      rw [e] at hg2
      rcases List.mem_append.1 hg2 with hg | hg
      · exact h.ca g hg
      · rw [List.mem_singleton.1 hg]; exact hc
theorem callF_dst {m : Zai} {f : Zaw} (hr : Zbj m = true) (h : OkF m f) (hc : CallF m f) :
    (endB m f = true → (0 ≤ (Zas m f).fin.dst ∧ (Zas m f).fin.dst < f.regs.length) ∧ (0 ≤ (Zas m f).fin.to ∧ (Zas m f).fin.to < (Zdk m f).blocks.length)) ∧
    (endB m f = false → 0 ≤ (Zbw m f).dst ∧ (Zbw m f).dst < f.regs.length) := by
  refine ⟨fun he => ?_, fun he => ?_⟩
  · have hk := hc.fin he
    have hE := (Zey hr h).2
    rw [h.regs]
    rcases hE with h | h | h | h | h
    · omega
    · omega
    · omega
    · exact ⟨(Zad _ _).1 h.2.2.1, goal_inM h.2.2.2.2.1⟩
    · omega
  · have hk := hc.ins he
    have hI := (okF_ins hr h he).2
    rw [h.regs]
    rcases hI with h | h | h | h | h | h | h
    · omega
    · omega
    · omega
    · omega
    · exact (Zad _ _).1 h.2.1
    · omega
    · omega
theorem top_take {s : Mach} {k : Nat} (h : k + 1 < s.stack.length) : s.stack.getD k default ∈ s.stack.take (s.stack.length - 1) := by
  rw [← Zbv (l := s.stack) (k := s.stack.length - 1) default (by omega)]
  exact Zc2 _ (by simp; omega)
theorem pop_top {m : Zai} {s : Mach} (h : OkM m s) (h2 : 1 < s.stack.length) : OkF m (topF (popM s)) ∧ CallF m (topF (popM s)) := by
  have e : topF (popM s) = s.stack.getD (s.stack.length - 2) default := by
    unfold topF; rw [Zcr]; show (s.stack.take (s.stack.length - 1)).getD (s.stack.length - 1 - 1) default = _
    rw [Zbv _ (by omega)]; rfl
  rw [e]
  exact ⟨h.fr _ (Zc2 _ (by omega)), h.ca _ (top_take (by omega))⟩
theorem okM_answered {m : Zai} {s : Mach} (hr : Zbj m = true) (h : OkM m s) {w : Int} (hp : 0 < s.stack.length) : OkM m (Zbq m s w) := by
  unfold Zbq
  split
  · rename_i h1
    have := h.cells
    exact ⟨h.cells, fun g hg => h.fr g (List.mem_of_mem_take hg), fun g hg => h.ca g (by
      have : g ∈ (s.stack.take (s.stack.length - 1)).take ((s.stack.take (s.stack.length - 1)).length - 1) := hg
      exact List.mem_of_mem_take this), by show (popM s).stack.length ≤ 32; rw [Zcr]; omega, fun e => absurd (show (1 : Int) = 0 from e) (by decide), h.inp⟩
  · rename_i h1
    obtain ⟨hF, hC⟩ := pop_top h (by omega)
    have hd := callF_dst hr hF hC
    refine Zec (popM_eq s ▸ okM_take h _ (by omega) (fun _ => by omega)) ?_ (by rw [Zcr]; omega)
    unfold answF
    split
    · rename_i he
      have := hd.1 he
      exact okF_to (okF_W hF _ _) this.2.1 this.2.2
    · rename_i he
      exact okF_next (okF_W hF _ _) (show endB m (topF (popM s)) = false from by simpa using he)
theorem okM_thrown {m : Zai} {s : Mach} (hr : Zbj m = true) (h : OkM m s) {w : Int} (hp : 0 < s.stack.length) : OkM m (Zbc m s w) := by
  by_cases hany : (List.range (popM s).stack.length).any (Zbt m (popM s).stack w false) = true
  · have hT : Zbc m s w = Zbu (Zdf (popM s) (Zer (Zbt m (popM s).stack w true) ((popM s).stack.length - 1) + 1)) (landF m ((popM s).stack.getD (Zer (Zbt m (popM s).stack w true) ((popM s).stack.length - 1)) default) (Zas m ((popM s).stack.getD (Zer (Zbt m (popM s).stack w true) ((popM s).stack.length - 1)) default)).fin.pad w) := by
      unfold Zbc; rw [if_pos hany]
    rw [List.any_eq_true] at hany
    obtain ⟨i, hi, hic⟩ := hany
    rw [List.mem_range] at hi
    obtain ⟨hK1, hK2⟩ := Zfc (p := Zbt m (popM s).stack w true) (n := (popM s).stack.length - 1) ⟨i, by omega, catch_more hic⟩
    rw [hT]
    have hgen : ∃ K, Zer (Zbt m (popM s).stack w true) ((popM s).stack.length - 1) = K := ⟨_, rfl⟩
    obtain ⟨K, hK⟩ := hgen
    rw [hK] at hK1 hK2 ⊢
    have hpl := Zcr (s := s)
    have hF : OkF m ((popM s).stack.getD K default) := by
      rw [show (popM s).stack.getD K default = s.stack.getD K default from Zbv _ (by omega)]
      exact h.fr _ (Zc2 _ (by omega))
    have hk4 : (Zas m ((popM s).stack.getD K default)).fin.kind = 4 := by
      unfold Zbt Zex at hK1
      simp only [Bool.and_eq_true, decide_eq_true_eq] at hK1
      exact hK1.2.1
    obtain ⟨⟨g1, g2⟩, g3, g4, g5⟩ := okF_pad hr hF hk4
    refine Zec (s := Zdf (popM s) (K + 1)) ?_ ?_ (by simp [Zdf]; omega)
    · have e : Zdf (popM s) (K + 1) = Zdf s (K + 1) := by
        show ({ s with stack := (s.stack.take (s.stack.length - 1)).take (K + 1) } : Mach) = { s with stack := s.stack.take (K + 1) }
        rw [List.take_take, show min (K + 1) (s.stack.length - 1) = K + 1 by omega]
      rw [e]
      exact okM_take h _ (by omega) (fun _ => by omega)
    · exact okF_W (okF_to (f := { (popM s).stack.getD K default with fly := w }) ⟨hF.f0, hF.f1, hF.b0, hF.b1, hF.a0, hF.a1, hF.regs⟩ g1 g2) _ _
  · have hT : Zbc m s w = endM (popM s) 2 w := by
      unfold Zbc; rw [if_neg hany]
    rw [hT]
    exact ⟨h.cells, fun g hg => h.fr g (List.mem_of_mem_take hg), fun g hg => h.ca g (by
      have : g ∈ (s.stack.take (s.stack.length - 1)).take ((s.stack.take (s.stack.length - 1)).length - 1) := hg
      exact List.mem_of_mem_take this), by show (popM s).stack.length ≤ 32; rw [Zcr]; have := h.len; omega, fun e => absurd (show (2 : Int) = 0 from e) (by decide), h.inp⟩
theorem argsB_n {m : Zai} {f : Func} {n : Int} {l : List Int} (h : argsB m f n l = true) : (0 ≤ n ∧ n < m.funcs.length) ∧ (l.length : Int) = (m.funcs.getD n.toNat default).params ∧ ∀ p ∈ l, 0 ≤ p ∧ p < f.regs := by
  unfold argsB at h
  cases h2 : inn n m.funcs.length with
  | false => simp [h2] at h
  | true =>
    refine ⟨(Zad _ _).1 h2, ?_⟩
    simp [h2] at h
    refine ⟨by simpa using h.1, fun p hp => (Zad _ _).1 ?_⟩
    have := h.2 p hp
    simpa using this
end Go.Proofs.Ytoelbgjpmpoolaa
namespace Go.Proofs.Ytoelbgjpmpoolaa
open Go Dv
set_option maxRecDepth 10000
set_option linter.unusedSimpArgs false
theorem okM_ev {m : Zai} {s t : Mach} (h : OkM m s) (h1 : t.stack = s.stack) (h2 : t.cells.length = 16) (h3 : t.done = s.done) (h4 : (∀ x ∈ t.inputs, x ∈ s.inputs) ∧ t.inputs.length ≤ s.inputs.length) : OkM m t :=
  ⟨h2, by rw [h1]; exact h.fr, by rw [h1]; exact h.ca, by rw [h1]; exact h.len, by rw [h1, h3]; exact h.pos, fun x hx => h.inp.1 x (h4.1 x hx), Nat.lt_of_le_of_lt h4.2 h.inp.2⟩
theorem okM_ins {m : Zai} {s : Mach} (hr : Zbj m = true) (h : OkM m s) (hp : 0 < s.stack.length) (he : endB m (topF s) = false) : OkM m (insM m s (topF s) (Zbw m (topF s))) := by
  have hF := h.fr _ (top_mem hp)
  have hN := okF_next hF he
  have hI := (okF_ins hr hF he).2
  unfold insM
  split
  · rename_i h11
    have hA : argsB m (Zdk m (topF s)) (Zbw m (topF s)).f (Zbw m (topF s)).args = true := by
      rcases hI with h | h | h | h | h | h | h
      · omega
      · omega
      · omega
      · omega
      · exact h.2.2.2.2.2
      · omega
      · omega
    have := argsB_n hA
    exact okM_called hr h this.1.1 this.1.2 hp ⟨fun e => by (rw [he] at e; cases e), fun _ => h11⟩
  split
  · split
    · rename_i hok
      refine Zec h ?_ hp
      unfold Zdg
      rw [if_pos (by unfold Zdg at hok; split at hok; assumption; cases hok)]
      exact okF_next (okF_W hF _ _) he
    · exact okM_end h (by decide)
  split
  · split
    · exact okM_end h (by decide)
    · exact Zec h (okF_next (okF_W hF _ _) he) hp
  split
  · split
    · exact okM_end h (by decide)
    · exact Zec (okM_ev (t := { s with cells := s.cells.set (cellN (topF s) (Zbw m (topF s))) ((topF s).regs.getD (Zbw m (topF s)).b.toNat 0) }) h rfl (by simp; exact h.cells) rfl ⟨fun x hx => hx, Nat.le_refl _⟩) hN hp
  split
  · exact Zec (okM_ev (t := { s with events := s.events ++ [(topF s).regs.getD (Zbw m (topF s)).a.toNat 0] }) h rfl h.cells rfl ⟨fun x hx => hx, Nat.le_refl _⟩) hN hp
  split
  · split
    · exact okM_end h (by decide)
    · exact Zec (okM_ev (t := { s with inputs := s.inputs.drop 1, events := s.events ++ [s.inputs.getD 0 0 + 65536] }) h rfl h.cells rfl ⟨fun x hx => List.mem_of_mem_drop hx, by simp⟩) (okF_next (okF_W hF _ _) he) hp
  · exact Zec h hN hp
theorem okF_goF {m : Zai} {f : Zaw} (hr : Zbj m = true) (h : OkF m f) (h1 : (Zas m f).fin.kind ≠ 1) (h4 : (Zas m f).fin.kind ≠ 4) (h5 : (Zas m f).fin.kind ≠ 5) (h6 : (Zas m f).fin.kind ≠ 6) : OkF m (goF (Zas m f) f) := by
  have hE := (Zey hr h).2
  have hg : (goalB (Zdk m f) (Zas m f).fin.to = true) ∧ ((Zas m f).fin.kind = 3 → goalB (Zdk m f) (Zas m f).fin.els = true) := by
    rcases hE with h | h | h | h | h
    · omega
    · exact ⟨h.2.2.2.2.2.2.1, fun e => by omega⟩
    · exact ⟨h.2.2.2.2.2.2.1, fun _ => h.2.2.2.2.2.2.2⟩
    · omega
    · omega
  unfold goF
  split
  · rename_i h3; have := goal_inM (hg.2 h3.1); exact okF_to h this.1 this.2
  · have := goal_inM hg.1; exact okF_to h this.1 this.2
theorem okM_step {m : Zai} {s : Mach} (hr : Zbj m = true) (h : OkM m s) : OkM m (Zch m s) := by
  unfold Zch
  split
  · rename_i hd
    have hp := h.pos hd
    have hF := h.fr _ (top_mem hp)
    unfold stepE
    split
    · rename_i he; exact okM_ins hr h hp he
    rename_i he
    split
    · exact okM_answered hr h hp
    split
    · rename_i h1 h4
      have hE := (Zey hr hF).2
      have hA : argsB m (Zdk m (topF s)) (Zas m (topF s)).fin.f (Zas m (topF s)).fin.args = true := by
        rcases hE with h | h | h | h | h
        · omega
        · omega
        · omega
        · exact h.2.2.2.1
        · omega
      have := argsB_n hA
      exact okM_called hr h this.1.1 this.1.2 hp ⟨fun _ => h4, fun e => absurd e he⟩
    split
    · exact okM_thrown hr h hp
    split
    · exact okM_thrown hr h hp
    · rename_i h1 h4 h5 h6
      exact Zec h (okF_goF hr hF h1 h4 h5 h6) hp
  · exact h
theorem right0 {m : Zai} (hr : Zbj m = true) : 0 < m.funcs.length ∧ (m.funcs.getD 0 default).params = 0 := by
  unfold Zbj at hr; rw [Bool.and_eq_true, decide_eq_true_eq] at hr; exact ⟨hr.1.1, hr.1.2.2⟩
theorem okM_new {m : Zai} {inputs : List Int} (hr : Zbj m = true) (hi : (∀ x ∈ inputs, 0 ≤ x ∧ x ≤ 65535) ∧ inputs.length < 1000000) : OkM m (newM m inputs) := by
  refine ⟨rfl, fun f hf => ?_, fun f hf => ?_, by show 1 ≤ 32; omega, fun _ => by show 0 < 1; omega, hi⟩
  · rw [List.mem_singleton.1 hf]; exact okF_new hr (by omega) (by have := (right0 hr).1; omega)
  · cases hf
theorem okM_run {m : Zai} {inputs : List Int} (hr : Zbj m = true) (hi : (∀ x ∈ inputs, 0 ≤ x ∧ x ≤ 65535) ∧ inputs.length < 1000000) : ∀ k, OkM m (runM m inputs k)
  | 0 => okM_new hr hi
  | k + 1 => okM_step hr (okM_run hr hi k)
theorem ev_called {m : Zai} {s : Mach} {n : Int} {l : List Int} : (Zb0 m s n l).events = s.events := by unfold Zb0; split <;> rfl
theorem ev_answered {m : Zai} {s : Mach} {w : Int} : (Zbq m s w).events = s.events := by unfold Zbq; split <;> rfl
theorem ev_thrown {m : Zai} {s : Mach} {w : Int} : (Zbc m s w).events = s.events := by unfold Zbc; dsimp only; split <;> rfl
theorem ev_ins {m : Zai} {s : Mach} {f : Zaw} {x : Ins} : (insM m s f x).events = s.events ∨ ∃ e, (insM m s f x).events = s.events ++ [e] := by
  unfold insM
  split
  · exact .inl ev_called
  split
  · split <;> exact .inl rfl
  split
  · split <;> exact .inl rfl
  split
  · split <;> exact .inl rfl
  split
  · exact .inr ⟨_, rfl⟩
  split
  · split
    · exact .inl rfl
    · exact .inr ⟨_, rfl⟩
  · exact .inl rfl
theorem ev_step {m : Zai} {s : Mach} : (Zch m s).events = s.events ∨ ∃ e, (Zch m s).events = s.events ++ [e] := by
  unfold Zch
  split
  · unfold stepE
    split
    · exact ev_ins
    split
    · exact .inl ev_answered
    split
    · exact .inl ev_called
    split
    · exact .inl ev_thrown
    split
    · exact .inl ev_thrown
    · exact .inl rfl
  · exact .inl rfl
theorem ev_run {m : Zai} {inputs : List Int} : ∀ k, (runM m inputs k).events.length ≤ k
  | 0 => Nat.le_refl _
  | k + 1 => by
      have h1 := ev_run (m := m) (inputs := inputs) k
      show (Zch m (runM m inputs k)).events.length ≤ k + 1
      rcases ev_step (m := m) (s := runM m inputs k) with h | ⟨e, h⟩
      · rw [h]; omega
      · rw [h, List.length_append]; simp; exact h1
end Go.Proofs.Ytoelbgjpmpoolaa
namespace Go.Proofs.Ytoelbgjpmpoolaa
open Go Dv
set_option maxRecDepth 10000
set_option linter.unusedSimpArgs false
set_option maxHeartbeats 2000000 in
theorem c_fNew (m : Zai) (n : Int) (args : List Int) (hr : Zbj m = true) (h0 : 0 ≤ n) (h1 : n < m.funcs.length) (hp : (args.length : Int) = (m.funcs.getD n.toNat default).params) :
    HF Try.prog 24 [.agg (Zbf m), iv n, u16s args] (.tup [.agg (frO (frN m n args) (.rs r0 1 0 (frN m n args).regs.length)), iv 0]) (oneR (frN m n args).regs) := by
  refine Zfz tok Try.func24 rfl (by decide +kernel) (Nat.le_of_ble_eq_true rfl) ?_
  have hmx : maxL = 4294967296 := rfl
  have hFn := c_fFun m n hr h0 h1
  have hP := okF_funP (Zev hr (show n.toNat < m.funcs.length by omega))
  have hgen : ∃ F, m.funcs.getD n.toNat default = F := ⟨_, rfl⟩
  obtain ⟨F, hF⟩ := hgen
  rw [hF] at hp hFn hP
  have hR0 : 0 ≤ F.regs ∧ F.regs ≤ 256 ∧ (args.length : Int) ≤ F.regs := by have := hP.1; have := hP.2.2.1; have := hP.2.2.2.1; omega
  have hfr : frN m n args = ⟨n, 0, 0, (List.range F.regs.toNat).map (regN args), 0⟩ := by unfold frN; rw [hF]
  have hlen : ((List.range F.regs.toNat).map (regN args)).length = F.regs.toNat := by simp
  rw [hfr]
  (repeat' first | refine Zac ?_ | (refine Zab tok (by rfl) ?_; conv => whnf))
  refine .inl ⟨_, _, _, uG (QC.fc hFn rfl), ?_⟩
  conv => whnf
  (repeat' ((fail_if_success (show AWp _ _ _ (Code.region 3 _ _) _ _)); (fail_if_success (show AWp _ _ _ (Code.region 4 _ _) _ _)); first | refine Zac ?_ | (refine Zab tok (by rfl) ?_; conv => whnf) | (refine Zag ?_; conv => whnf) | refine Zaf rfl (fun hb => ?_) (fun hb => ?_)))
  · exfalso; rw [decide_eq_true hp] at hb; cases hb
  clear hb
  ((repeat' ((fail_if_success (show AWp _ _ _ (Code.region 5 _ _) _ _)); first | refine Zac ?_ | (refine Zab tok (by rfl) ?_; conv => whnf) | (refine @And.intro (Zaa _ _ _ _) _ ?_ ?_; rotate_left; (conv => whnf); rotate_right))); all_goals (try ((guard_target = Zaa _ _ _ _); refine Zae ?_; (all_goals (try simp only [Zaa, kzz, kz11, kz12, maxL, Zad] at *)); all_goals omega)))
  refine Zau (Weak.list (tl := [(1, iv n), (2, u16s args), (3, .bp (3, 0, 0) 0), (6, .bp (6, 0, 0) 0), (10, .bp (10, 0, 0) 0)]) [((3, 0, 0), .old (3, 0, 0), Za6 (Zbf m)), ((6, 0, 0), .old (6, 0, 0), Za6 [iv 0, iv 0, iv 0, .nsl, .int .u16 0]), ((10, 0, 0), .old (10, 0, 0), .row false 5 1 (fun _ => [iv n, iv 0, iv 0, .rs (30, 0, 0) 1 0 F.regs.toNat, .int .u16 0])), ((30, 0, 0), .old (30, 0, 0), .row true 1 F.regs.toNat (fun _ => [.int .u16 0]))] rfl (by rfl) ?_ (.old rfl (BLe.refl _) (.old rfl (BLe.refl _) (.old rfl (BLe.rowW (Nat.le_refl _) (ltS (Wks.of rfl) lt0)) (.old rfl (BLe.refl _) .nil))))) ?_
  · ((repeat' first | exact TLes.nil | refine TLes.cons (TLe.eq rfl) ?_); skip)
  refine AWp_hand tok [_, _, _] _ [] rfl (by rfl) (by rfl) rfl ?_
  conv => whnf
  intro X ι a w s
  refine ⟨⟨.int .i64 args.length, .big [] (oneU (30, 0, 0) (.row true 1 F.regs.toNat (cpR args.length (fun i => [.int .u16 (args.getD i 0)]) (fun _ => [.int .u16 0])))), []⟩, copy_ok tok s rfl rfl rfl rfl rfl rfl rfl rfl rfl rfl trivial (Nat.le_refl _) (by omega), rfl, ?_⟩
  conv => whnf
  (repeat' first | refine Zac ?_ | (refine Zab tok (by rfl) ?_; conv => whnf) | (refine Zaj ?_; conv => whnf))
  refine ⟨_, srcL [(r0, some (30, 0, 0))], rfl, ?_⟩
  rw [← and_assoc]
  refine ⟨leaveR [(r0, some (30, 0, 0))] rfl (fun c hc => ?_) (.old rfl rfl (GB.rowI (Nat.le_of_eq hlen) (fun q hq => ⟨?_, ?_⟩)) .nil) (fun j b e => by cases e), .tup (.cons (.agg (.cons (.imm rfl) (.cons (.imm rfl) (.cons (.imm rfl) (.cons (.rs rfl rfl rfl hlen.symm) (.cons (.imm rfl) .nil)))))) (.cons (.imm rfl) .nil))⟩
  · simp only [tgts, List.mem_cons, List.not_mem_nil, or_false] at hc
    subst hc; exact .inl rfl
  · unfold cpR; cases Nat.blt q args.length <;> rfl
  · have hq2 : q < F.regs.toNat := by simpa using hq
    have e : ((List.range F.regs.toNat).map (regN args)).getD q 0 = regN args q := by
      rw [List.getD_eq_getElem?_getD, List.getElem?_map, List.getElem?_range hq2]; rfl
    show cpR args.length _ _ q = [.int .u16 (((List.range F.regs.toNat).map (regN args)).getD q 0)]
    rw [e]
    unfold cpR regN
    by_cases hqa : q < args.length
    · rw [show Nat.blt q args.length = true from by rw [Nat.blt_eq]; exact hqa, if_pos hqa]; rfl
    · rw [show Nat.blt q args.length = false from by rw [Bool.eq_false_iff]; intro h; rw [Nat.blt_eq] at h; exact hqa h, if_neg hqa]; rfl
end Go.Proofs.Ytoelbgjpmpoolaa
namespace Go.Proofs.Ytoelbgjpmpoolaa
open Go Dv
set_option maxRecDepth 10000
set_option linter.unusedSimpArgs false
end Go.Proofs.Ytoelbgjpmpoolaa
namespace Go.Proofs.Ytoelbgjpmpoolaa
open Go Dv
set_option maxRecDepth 10000
set_option linter.unusedSimpArgs false
theorem c_IndexU (l : List Int) (n : Int) : FC Try.prog 62 [u16s l, .int .u16 n] (iv (idxG (fun y => decide (n = y)) l)) := by
  refine Zax tok Try.func62 rfl (by decide +kernel) (Nat.le_of_ble_eq_true rfl) ?_
  refine Za1 0 (fun hl => ?_)
  have hl0 : l.length ≤ maxL := hl.1
  (repeat' first | refine Zac ?_ | (refine Zab tok (by rfl) ?_; conv => whnf) | refine Zak ?_)
  refine Za5 (fun i : Nat => mkS [(0, u16s l), (1, .int .u16 n), (7, iv l.length), (8, iv i)] [])
    (fun i => i ≤ l.length ∧ ∀ j, j < i → decide (n = l.getD j 0) = false) (fun i => l.length - i) 0 ⟨Nat.zero_le _, by simp⟩ ?_ ?_
  · refine Weak.list [] rfl (by rfl) ?_ .nil
    ((repeat' first | exact TLes.nil | refine TLes.cons (TLe.eq rfl) ?_); skip)
  rintro i ⟨hi2, hc⟩
  ((repeat' first | refine Zac ?_ | (refine Zab tok (by rfl) ?_; conv => whnf) | refine Zak ?_ | (refine Zag ?_; conv => whnf) | (refine Za8 ?_; conv => whnf) | (refine Zaj ?_; conv => whnf) | refine Zaf rfl (fun hb => ?_) (fun hb => ?_) | (refine @And.intro (Zaa _ _ _ _) _ ?_ ?_; rotate_left; (conv => whnf); rotate_right)); all_goals (try ((guard_target = Zaa _ _ _ _); refine Zae ?_; (all_goals (try simp only [Zaa, kzz, kz11, kz12, maxL, Zad] at *)); all_goals omega)))
  · have hlt : i < l.length := by rename_i h; simp only [Zaa, kzz, kz11, kz12, maxL, Zad] at *; omega
    refine ⟨_, rfl, Rel.int ?_⟩
    exact (idxG_at 0 hlt hc (by simpa using hb)).symm
  · have hlt : i < l.length := by rename_i h; simp only [Zaa, kzz, kz11, kz12, maxL, Zad] at *; omega
    refine ⟨i + 1, ⟨hlt, fun j hj => ?_⟩, by omega, ?_⟩
    · by_cases e : j = i
      · subst e; simpa using hb
      · exact hc j (by omega)
    refine Weak.list [] rfl (by rfl) ?_ .nil
    ((repeat' first | exact TLes.nil | refine TLes.cons (TLe.eq rfl) ?_ | refine TLes.cons (TLe.int ?_) ?_); (all_goals first | ((try (simp only [Zaa, kzz, kz11, kz12, maxL, Zad] at *)); exact Zal (by omega) (by omega)) | skip))
  · refine ⟨_, rfl, Rel.int ?_⟩
    exact (idxG_none 0 (fun j hj => hc j (by simp only [Zaa, kzz, kz11, kz12, maxL, Zad] at *; omega))).symm
theorem c_ContainsU (l : List Int) (n : Int) : FC Try.prog 54 [u16s l, .int .u16 n] (.bool (hasB l n)) := by
  refine Zax tok Try.func54 rfl (by decide +kernel) (Nat.le_of_ble_eq_true rfl) ?_
  (repeat' first | refine Zac ?_ | (refine Zab tok (by rfl) ?_; conv => whnf))
  refine .inl ⟨_, _, _, uG (QC.fc (c_IndexU l n) rfl), ?_⟩
  conv => whnf
  (repeat' (refine Zaj ?_; conv => whnf))
  refine ⟨_, rfl, Rel.bool ?_⟩
  unfold hasB; rw [← idxG_any]
theorem hasB_mem {l : List Int} {n : Int} : hasB l n = decide (n ∈ l) := by
  unfold hasB
  rw [Bool.eq_iff_iff, List.any_eq_true, decide_eq_true_eq]
  constructor
  · rintro ⟨x, hx, e⟩; rw [decide_eq_true_eq] at e; rw [e]; exact hx
  · intro h; exact ⟨n, h, by simp⟩
theorem c_fCatches (p : Pad) (w : Int) : FC Try.prog 47 [.agg (encPad p), .int .u16 w] (.bool (catchF p w)) := by
  refine Zax tok Try.func47 rfl (by decide +kernel) (Nat.le_of_ble_eq_true rfl) ?_
  (repeat' first | refine Zac ?_ | (refine Zab tok (by rfl) ?_; conv => whnf))
  refine .inl ⟨_, _, _, uG (QC.fc (c_ContainsU p.catch_ w) rfl), ?_⟩
  conv => whnf
  (repeat' (refine Zaj ?_; conv => whnf))
  refine ⟨_, rfl, Rel.bool ?_⟩
  unfold catchF
  rw [← hasB_mem]
  cases p.all <;> cases hasB p.catch_ w <;> rfl
end Go.Proofs.Ytoelbgjpmpoolaa
namespace Go.Proofs.Ytoelbgjpmpoolaa
open Go Dv
set_option maxRecDepth 10000
set_option linter.unusedSimpArgs false
def sel (b : Bool) (x y : AV) : AV := bif b then x else y
theorem Zdc {a i : Nat} (h : i ≤ a) {x y : AV} : sel (Nat.blt a i) x y = y := by
  have : Nat.blt a i = false := by rw [Bool.eq_false_iff]; intro h2; rw [Nat.blt_eq] at h2; omega
  rw [this]; rfl
theorem Zb9 {a i : Nat} (h : a < i) {x y : AV} : sel (Nat.blt a i) x y = x := by
  have : Nat.blt a i = true := by rw [Nat.blt_eq]; exact h
  rw [this]; rfl
section
variable {src : Dv.Id → Option Dv.Id} {h h' : Zao}
end
end Go.Proofs.Ytoelbgjpmpoolaa
namespace Go.Proofs.Ytoelbgjpmpoolaa
open Go Dv
set_option maxRecDepth 10000
set_option linter.unusedSimpArgs false
abbrev jB : Dv.Id := (1, 7, 0)
abbrev jF : Dv.Id := (2, 7, 0)
abbrev jE : Dv.Id := (942, 0, 0)
abbrev jT : Dv.Id := (944, 0, 0)
abbrev jN : Dv.Id := (941, 0, 0)
def evB (l : List Int) : Zam := .row true 1 l.length (fun x => [iv (l.getD x 0)])
def Zbg (l : List Zaw) (q : Nat) : AV := sel (Nat.blt q (l.length - 1)) (.rs (945, 0, q) 1 0 (l.getD q default).regs.length) (.rs jT 1 0 (l.getD q default).regs.length)
def frC (l : List Zaw) (q : Nat) : List AV := [iv (l.getD q default).f, iv (l.getD q default).block, iv (l.getD q default).at_, Zbg l q, .int .u16 (l.getD q default).fly]
def Zcx (l : List Zaw) : Zam := .row false 5 l.length (frC l)
def famW (l : List Zaw) : Zao := famC 945 (fun z q => bif Nat.beq z 0 && Nat.blt q (l.length - 1) then some (regB (l.getD q default).regs) else none)
def macC (m : Zai) (s : Mach) : List AV := [.rs jF 5 0 s.stack.length, cw s.cells 0, cw s.cells 1, cw s.cells 2, cw s.cells 3, cw s.cells 4, cw s.cells 5, cw s.cells 6, cw s.cells 7, cw s.cells 8, cw s.cells 9, cw s.cells 10, cw s.cells 11, cw s.cells 12, cw s.cells 13, cw s.cells 14, cw s.cells 15, u16s s.inputs, .rs jE 1 0 s.events.length, iv s.done, .int .u16 s.value, Zd3 m.funcs]
def macB (m : Zai) (s : Mach) : Zam := .row false 22 1 (fun _ => macC m s)
def memL (m : Zai) (s : Mach) : List (Dv.Id × Zam) := [(jB, macB m s), (jF, Zcx s.stack), (jE, evB s.events), (jT, regB (topF s).regs)]
def mem (m : Zai) (s : Mach) : Zao := orH (Zay (memL m s)) (famW s.stack)
theorem famW_some {l : List Zaw} {j : Dv.Id} {b : Zam} (h : famW l j = some b) : ∃ q, j = (945, 0, q) ∧ q < l.length - 1 ∧ b = regB (l.getD q default).regs := by
  obtain ⟨z, q, rfl, h3⟩ := famC_some h
  cases e : (Nat.beq z 0 && Nat.blt q (l.length - 1)) with
  | false => rw [e] at h3; cases h3
  | true =>
    rw [e] at h3
    rw [Bool.and_eq_true, Nat.blt_eq] at e
    have hz : z = 0 := Nat.eq_of_beq_eq_true e.1
    subst hz
    exact ⟨q, rfl, e.2, (Option.some.inj h3).symm⟩
theorem Za0 {l : List Zaw} {q : Nat} (h : q < l.length - 1) : famW l (945, 0, q) = some (regB (l.getD q default).regs) := by
  show (bif Nat.beq 0 0 && Nat.blt q (l.length - 1) then some (regB (l.getD q default).regs) else none) = _
  rw [show (Nat.beq 0 0 && Nat.blt q (l.length - 1)) = true from by rw [Bool.and_eq_true, Nat.blt_eq]; exact ⟨rfl, h⟩]; rfl
theorem Zdr {m : Zai} {s : Mach} {q : Nat} : mem m s (945, 0, q) = famW s.stack (945, 0, q) := rfl
theorem Zb4 {m : Zai} {s : Mach} {j : Dv.Id} {b : Zam} (h : mem m s j = some b) : (j = jB ∧ b = macB m s) ∨ (j = jF ∧ b = Zcx s.stack) ∨ (j = jE ∧ b = evB s.events) ∨ (j = jT ∧ b = regB (topF s).regs) ∨
    ∃ q, j = (945, 0, q) ∧ q < s.stack.length - 1 ∧ b = regB (s.stack.getD q default).regs := by
  rcases orH_some h with e | ⟨_, e⟩
  · simp only [memL, Zay] at e
    cases e1 : idEq jB j with
    | true => rw [e1] at e; exact .inl ⟨(Zav.1 e1).symm, (Option.some.inj e).symm⟩
    | false =>
      cases e2 : idEq jF j with
      | true => rw [e1, e2] at e; exact .inr (.inl ⟨(Zav.1 e2).symm, (Option.some.inj e).symm⟩)
      | false =>
        cases e3 : idEq jE j with
        | true => rw [e1, e2, e3] at e; exact .inr (.inr (.inl ⟨(Zav.1 e3).symm, (Option.some.inj e).symm⟩))
        | false =>
          cases e4 : idEq jT j with
          | true => rw [e1, e2, e3, e4] at e; exact .inr (.inr (.inr (.inl ⟨(Zav.1 e4).symm, (Option.some.inj e).symm⟩)))
          | false => rw [e1, e2, e3, e4] at e; cases e
  · exact .inr (.inr (.inr (.inr (famW_some e))))
def D32 : List Dv.Id := [(945, 0, 0), (945, 0, 1), (945, 0, 2), (945, 0, 3), (945, 0, 4), (945, 0, 5), (945, 0, 6), (945, 0, 7), (945, 0, 8), (945, 0, 9), (945, 0, 10), (945, 0, 11), (945, 0, 12), (945, 0, 13), (945, 0, 14), (945, 0, 15), (945, 0, 16), (945, 0, 17), (945, 0, 18), (945, 0, 19), (945, 0, 20), (945, 0, 21), (945, 0, 22), (945, 0, 23), (945, 0, 24), (945, 0, 25), (945, 0, 26), (945, 0, 27), (945, 0, 28), (945, 0, 29), (945, 0, 30), (945, 0, 31)]
theorem D32_eq : D32 = (List.range 32).map fun q => (945, 0, q) := rfl
theorem Zf0 {i : Dv.Id} : i ∈ D32 ↔ ∃ q, q < 32 ∧ i = (945, 0, q) := by
  rw [D32_eq, List.mem_map]
  constructor
  · rintro ⟨q, hq, rfl⟩; exact ⟨q, List.mem_range.1 hq, rfl⟩
  · rintro ⟨q, hq, rfl⟩; exact ⟨q, List.mem_range.2 hq, rfl⟩
abbrev LW : List Dv.Id := [jB, jF]
theorem mem_closed (m : Zai) (s : Mach) : ∀ j b, mem m s j = some b → Dv.mapB (kpH (mem m s)) b = b := by
  intro j b h
  have kp : ∀ i, (mem m s i).isSome = true → kpH (mem m s) i = some i := fun i hi => by
    unfold kpH; cases e : mem m s i with
    | none => rw [e] at hi; cases hi
    | some b => rfl
  rcases Zb4 h with ⟨rfl, rfl⟩ | ⟨rfl, rfl⟩ | ⟨rfl, rfl⟩ | ⟨rfl, rfl⟩ | ⟨q, rfl, hq, rfl⟩
  · show Zam.row false 22 1 (fun _ => Zbk (kpH (mem m s)) (macC m s)) = _
    rfl
  · show Zam.row false 5 s.stack.length (fun q => Zbk (kpH (mem m s)) (frC s.stack q)) = Zam.row false 5 s.stack.length (frC s.stack)
    congr 1
    funext q
    show [_, _, _, Zbh _ (Zbg s.stack q), _] = _
    unfold frC
    congr 4
    unfold Zbg
    by_cases hq : q < s.stack.length - 1
    · rw [Zb9 hq]
      show (match kpH (mem m s) (945, 0, q) with | some j => AV.rs j 1 0 _ | none => .any) = _
      rw [kp _ (by rw [Zdr, Za0 hq]; rfl)]
    · rw [Zdc (by omega)]; rfl
  · rfl
  · rfl
  · rfl
theorem mem_sub {m : Zai} {s : Mach} {h : Zao} (h1 : h jB = some (macB m s)) (h2 : h jF = some (Zcx s.stack)) (h3 : h jE = some (evB s.events)) (h4 : h jT = some (regB (topF s).regs)) (h5 : ∀ q, q < s.stack.length - 1 → h (945, 0, q) = some (regB (s.stack.getD q default).regs)) :
    ∀ j b, mem m s j = some b → h j = some b := fun j b e => by
  rcases Zb4 e with ⟨rfl, rfl⟩ | ⟨rfl, rfl⟩ | ⟨rfl, rfl⟩ | ⟨rfl, rfl⟩ | ⟨q, rfl, hq, rfl⟩
  · exact h1
  · exact h2
  · exact h3
  · exact h4
  · exact h5 q hq
theorem Zan {l : List Zaw} {q : Nat} (h : l.length - 1 ≤ q) : famW l (945, 0, q) = none := by
  cases e : famW l (945, 0, q) with
  | none => rfl
  | some b =>
    obtain ⟨q', e1, e2, _⟩ := famW_some e
    injection e1 with _ e1
    injection e1 with _ e1
    subst e1; omega
theorem Zaz {m : Zai} {s : Mach} {h : Zao} (h1 : h jB = some (macB m s)) (h2 : h jF = some (Zcx s.stack)) (h3 : h jE = some (evB s.events)) (h4 : h jT = some (regB (topF s).regs)) (h5 : ∀ q, h (945, 0, q) = famW s.stack (945, 0, q)) :
    ∀ j b, mem m s j = some b → h j = some b := mem_sub h1 h2 h3 h4 (fun q hq => by rw [h5 q, Za0 hq])
section
variable {P : Program} {f : FuncId} {m : Zai} {s s' : Mach} {args : List AV} {r : AV} {h : Zao}
abbrev dK : List Dv.Id := jE :: jT :: D32
abbrev dN : List Dv.Id := jN :: jE :: jT :: D32
theorem QH.tnM {L : List Dv.Id} (hB : jB ∈ L) (hF : jF ∈ L) (hc : HG P L f (mem m s) args r (mem m s')) (h32 : s.stack.length ≤ 32) (hsub : ∀ j b, mem m s j = some b → h j = some b) (hag : Zbk (kpH (mem m s)) args = args)
    (hfree : ∀ q, s.stack.length - 1 ≤ q → h (945, 0, q) = none) : QH P h f args dK (mem m s') r := by
  refine QH.frame hc hsub (mem_closed m s) hag (fun i hi => ?_) (fun i hi => ?_) (fun i hi => ?_)
  · cases e : mem m s i with
    | none => rw [e] at hi; cases hi
    | some b =>
      rcases Zb4 e with ⟨rfl, _⟩ | ⟨rfl, _⟩ | ⟨rfl, _⟩ | ⟨rfl, _⟩ | ⟨q, rfl, hq, _⟩
      · exact .inr ⟨hB, rfl, rfl⟩
      · exact .inr ⟨hF, rfl, rfl⟩
      · exact .inl rfl
      · exact .inl rfl
      · exact .inl (Zb7.2 (List.mem_cons_of_mem _ (List.mem_cons_of_mem _ (Zf0.2 ⟨q, by omega, rfl⟩))))
  · cases e : mem m s' i with
    | none => rw [e] at hi; cases hi
    | some b =>
      rcases Zb4 e with ⟨rfl, _⟩ | ⟨rfl, _⟩ | ⟨rfl, _⟩ | ⟨rfl, _⟩ | ⟨q, rfl, hq, _⟩
      · exact .inl rfl
      · exact .inl rfl
      · exact .inl rfl
      · exact .inl rfl
      · by_cases hq2 : q < s.stack.length - 1
        · exact .inl (by rw [Zdr, Za0 hq2]; rfl)
        · exact .inr (hfree q (by omega))
  · rcases List.mem_cons.1 (Zb7.1 hi) with rfl | hi
    · exact .inl rfl
    rcases List.mem_cons.1 hi with rfl | hi
    · exact .inl rfl
    obtain ⟨q, _, rfl⟩ := Zf0.1 hi
    by_cases hq2 : q < s.stack.length - 1
    · exact .inl (by rw [Zdr, Za0 hq2]; rfl)
    · exact .inr (hfree q (by omega))
def macX (F : Dv.Id) (m : Zai) (s : Mach) : List AV := .rs F 5 0 s.stack.length :: (macC m s).drop 1
def memN (m : Zai) (s : Mach) : Zao := orH (Zay [(jB, .row false 22 1 (fun _ => macX jN m s)), (jN, Zcx s.stack), (jE, evB s.events), (jT, regB (topF s).regs)]) (famW s.stack)
theorem memN_some {j : Dv.Id} {b : Zam} (h : memN m s j = some b) : (j = jB ∧ b = .row false 22 1 (fun _ => macX jN m s)) ∨ (j = jN ∧ b = Zcx s.stack) ∨ (j = jE ∧ b = evB s.events) ∨ (j = jT ∧ b = regB (topF s).regs) ∨
    ∃ q, j = (945, 0, q) ∧ q < s.stack.length - 1 ∧ b = regB (s.stack.getD q default).regs := by
  rcases orH_some h with e | ⟨_, e⟩
  · simp only [Zay] at e
    cases e1 : idEq jB j with
    | true => rw [e1] at e; exact .inl ⟨(Zav.1 e1).symm, (Option.some.inj e).symm⟩
    | false =>
      cases e2 : idEq jN j with
      | true => rw [e1, e2] at e; exact .inr (.inl ⟨(Zav.1 e2).symm, (Option.some.inj e).symm⟩)
      | false =>
        cases e3 : idEq jE j with
        | true => rw [e1, e2, e3] at e; exact .inr (.inr (.inl ⟨(Zav.1 e3).symm, (Option.some.inj e).symm⟩))
        | false =>
          cases e4 : idEq jT j with
          | true => rw [e1, e2, e3, e4] at e; exact .inr (.inr (.inr (.inl ⟨(Zav.1 e4).symm, (Option.some.inj e).symm⟩)))
          | false => rw [e1, e2, e3, e4] at e; cases e
  · exact .inr (.inr (.inr (.inr (famW_some e))))
theorem memN_closed (m : Zai) (s : Mach) : ∀ j b, memN m s j = some b → Dv.mapB (kpH (memN m s)) b = b := by
  intro j b h
  have kp : ∀ i, (memN m s i).isSome = true → kpH (memN m s) i = some i := fun i hi => by
    unfold kpH; cases e : memN m s i with
    | none => rw [e] at hi; cases hi
    | some b => rfl
  rcases memN_some h with ⟨rfl, rfl⟩ | ⟨rfl, rfl⟩ | ⟨rfl, rfl⟩ | ⟨rfl, rfl⟩ | ⟨q, rfl, hq, rfl⟩
  · rfl
  · show Zam.row false 5 s.stack.length (fun q => Zbk (kpH (memN m s)) (frC s.stack q)) = Zam.row false 5 s.stack.length (frC s.stack)
    congr 1
    funext q
    show [_, _, _, Zbh _ (Zbg s.stack q), _] = _
    unfold frC
    congr 4
    unfold Zbg
    by_cases hq : q < s.stack.length - 1
    · rw [Zb9 hq]
      show (match kpH (memN m s) (945, 0, q) with | some j => AV.rs j 1 0 _ | none => .any) = _
      rw [kp _ (by show (famW s.stack (945, 0, q)).isSome = true; rw [Za0 hq]; rfl)]
    · rw [Zdc (by omega)]; rfl
  · rfl
  · rfl
  · rfl
theorem QH.ddM {L : List Dv.Id} (hB : jB ∈ L) (hc : HG P L f (memN m s) args r (mem m s')) (h32 : s.stack.length ≤ 32) (hsub : ∀ j b, memN m s j = some b → h j = some b) (hag : Zbk (kpH (memN m s)) args = args) (hjF : h jF = none)
    (hfree : ∀ q, s.stack.length - 1 ≤ q → h (945, 0, q) = none) : QH P h f args dN (mem m s') r := by
  have fam : ∀ q, memN m s (945, 0, q) = famW s.stack (945, 0, q) := fun q => rfl
  refine QH.frame hc hsub (memN_closed m s) hag (fun i hi => ?_) (fun i hi => ?_) (fun i hi => ?_)
  · cases e : memN m s i with
    | none => rw [e] at hi; cases hi
    | some b =>
      rcases memN_some e with ⟨rfl, _⟩ | ⟨rfl, _⟩ | ⟨rfl, _⟩ | ⟨rfl, _⟩ | ⟨q, rfl, hq, _⟩
      · exact .inr ⟨hB, rfl, rfl⟩
      · exact .inl rfl
      · exact .inl rfl
      · exact .inl rfl
      · exact .inl (Zb7.2 (List.mem_cons_of_mem _ (List.mem_cons_of_mem _ (List.mem_cons_of_mem _ (Zf0.2 ⟨q, by omega, rfl⟩)))))
  · cases e : mem m s' i with
    | none => rw [e] at hi; cases hi
    | some b =>
      rcases Zb4 e with ⟨rfl, _⟩ | ⟨rfl, _⟩ | ⟨rfl, _⟩ | ⟨rfl, _⟩ | ⟨q, rfl, hq, _⟩
      · exact .inl rfl
      · exact .inr hjF
      · exact .inl rfl
      · exact .inl rfl
      · by_cases hq2 : q < s.stack.length - 1
        · exact .inl (by rw [fam, Za0 hq2]; rfl)
        · exact .inr (hfree q (by omega))
  · rcases List.mem_cons.1 (Zb7.1 hi) with rfl | hi
    · exact .inl rfl
    rcases List.mem_cons.1 hi with rfl | hi
    · exact .inl rfl
    rcases List.mem_cons.1 hi with rfl | hi
    · exact .inl rfl
    obtain ⟨q, _, rfl⟩ := Zf0.1 hi
    by_cases hq2 : q < s.stack.length - 1
    · exact .inl (by rw [fam, Za0 hq2]; rfl)
    · exact .inr (hfree q (by omega))
end
theorem GV_reg {src : Dv.Id → Option Dv.Id} {h h' : Zao} {l : List Zaw} {q : Nat} (hq : q < l.length) (hs : ∀ q, q < l.length - 1 → src (945, 0, q) = some (945, 0, q)) (ht : src jT = some jT) (hf : ∀ q, q < l.length - 1 → (h' (945, 0, q)).isSome = true) (hT : (h' jT).isSome = true) : GV src h h' (Zbg l q) (Zbg l q) := by
  unfold Zbg
  by_cases e : q < l.length - 1
  · cases e1 : h' (945, 0, q) with
    | none => have := hf q e; rw [e1] at this; cases this
    | some b => exact .cc (Zb9 e) (Zb9 e) (.rs e1 (hs q e) rfl rfl)
  · cases e1 : h' jT with
    | none => rw [e1] at hT; cases hT
    | some b => exact .cc (Zdc (by omega)) (Zdc (by omega)) (.rs e1 ht rfl rfl)
theorem GB_fr {src : Dv.Id → Option Dv.Id} {h h' : Zao} {l : List Zaw} (hs : ∀ q, q < l.length - 1 → src (945, 0, q) = some (945, 0, q)) (ht : src jT = some jT) (hf : ∀ q, q < l.length - 1 → (h' (945, 0, q)).isSome = true) (hT : (h' jT).isSome = true) : GB src h h' (Zcx l) (Zcx l) :=
  GB.row (Nat.le_refl _) (fun q hq => .cons (.imm rfl) (.cons (.imm rfl) (.cons (.imm rfl) (.cons (GV_reg hq hs ht hf hT) (.cons (.imm rfl) .nil))))) (fun e => by cases e)
theorem Zbs {src : Dv.Id → Option Dv.Id} {h h' : Zao} (l : List Int) : GB src h h' (regB l) (regB l) := GB.rowI (Nat.le_refl _) (fun q hq => ⟨rfl, rfl⟩)
theorem Zd4 {src : Dv.Id → Option Dv.Id} {h h' : Zao} (l : List Int) : GB src h h' (evB l) (evB l) := GB.rowI (Nat.le_refl _) (fun q hq => ⟨rfl, rfl⟩)
theorem Ze9 {src : Dv.Id → Option Dv.Id} {h h' : Zao} {l : List Zaw} (hs : ∀ q, q < l.length - 1 → src (945, 0, q) = some (945, 0, q)) (hh : ∀ q, q < l.length - 1 → h (945, 0, q) = some (regB (l.getD q default).regs)) : ∀ j b, famW l j = some b → HOk src h h' j b := fun j b e => by
  obtain ⟨q, rfl, hq, rfl⟩ := famW_some e
  exact HOk.mk (hs q hq) (hh q hq) (Zbs _)
end Go.Proofs.Ytoelbgjpmpoolaa
namespace Go.Proofs.Ytoelbgjpmpoolaa
open Go Dv
set_option maxRecDepth 10000
set_option linter.unusedSimpArgs false
theorem Zfe (m : Zai) (s : Mach) (h : 0 < s.stack.length) (hl : s.stack.length ≤ 1000) : HG Try.prog (LW) 26 (mem m s) [.bp jB 0] (.rp jF 5 (s.stack.length - 1) 0) (mem m s) := by
  refine HG_intro tok Try.func26 rfl (by decide +kernel) (Nat.le_of_ble_eq_true rfl) ?_
  have hmx : maxL = 4294967296 := rfl
  ((repeat' first | refine Zac ?_ | (refine Zab tok (by rfl) ?_; conv => whnf) | (refine Zap tok mix (by rfl) ?_; conv => whnf) | (refine Zaj ?_; conv => whnf) | (refine @And.intro (Zaa _ _ _ _) _ ?_ ?_; rotate_left; (conv => whnf); rotate_right)); all_goals (try ((guard_target = Zaa _ _ _ _); refine Zae ?_; (all_goals (try simp only [Zaa, kzz, kz11, kz12, maxL, Zad] at *)); (all_goals (try (simp (disch := omega) only [Zal]))); all_goals omega)))
  refine ⟨_, rfl, rfl, ?_⟩
  show AV.rp jF 5 (0 + (IntKind.i64.wrap ((s.stack.length : Int) - 1)).toNat) 0 = _
  rw [Zal (by omega) (by omega)]
  congr 1; omega
theorem Zcq {m : Zai} {s' : Mach} : ∀ i ∈ LW, Zeb i = true → (mem m s' i).isSome = true ∧ srcL [] i = some i := fun i hi _ => by
  rcases List.mem_cons.1 hi with rfl | hi
  · exact ⟨rfl, rfl⟩
  · rw [List.mem_singleton.1 hi]; exact ⟨rfl, rfl⟩
theorem Zdd {m : Zai} {s s' : Mach} {h : Zao} (hst : s'.stack = s.stack) (hev : s'.events = s.events) {b0 : Zam} (h1 : h jB = some b0) (hB : GB (srcL []) h (mem m s') b0 (macB m s')) (h2 : h jF = some (Zcx s.stack)) (h3 : h jE = some (evB s.events)) (h4 : h jT = some (regB (topF s).regs)) (h5 : ∀ q, q < s.stack.length - 1 → h (945, 0, q) = some (regB (s.stack.getD q default).regs)) :
    (∀ j j' i, (mem m s' j).isSome = true → (mem m s' j').isSome = true → srcL [] j = some i → srcL [] j' = some i → j = j') ∧ ∀ j b, mem m s' j = some b → HOk (srcL []) h (mem m s') j b := by
  have ht : topF s' = topF s := by unfold topF; rw [hst]
  refine ⟨fun j j' i _ _ e1 e2 => by cases e1; cases e2; rfl, fun j b e => ?_⟩
  rcases Zb4 e with ⟨rfl, rfl⟩ | ⟨rfl, rfl⟩ | ⟨rfl, rfl⟩ | ⟨rfl, rfl⟩ | ⟨q, rfl, hq, rfl⟩
  · exact HOk.mk rfl h1 hB
  · refine HOk.mk rfl h2 ?_
    rw [← hst]
    exact GB_fr (fun _ _ => rfl) rfl (fun q hq => by rw [Zdr, Za0 hq]; rfl) rfl
  · refine HOk.mk rfl h3 ?_
    rw [hev]; exact Zd4 _
  · refine HOk.mk rfl h4 ?_
    rw [ht]; exact Zbs _
  · refine HOk.mk rfl (h5 q (by rw [← hst]; exact hq)) ?_
    rw [hst]; exact Zbs _
theorem Zce {m : Zai} {s : Mach} {h h' : Zao} {b : Zam} {b' : Zam} {imm : Bool} {f : Nat → List AV} (hf : f 0 = macC m s) (hF : h' jF = some b) (hE : h' jE = some b') : GB (srcL []) h h' (.row imm 22 1 f) (macB m s) :=
  GB.one (by
    rw [hf]
    exact .cons (.rs hF rfl rfl rfl) (.cons (.imm rfl) (.cons (.imm rfl) (.cons (.imm rfl) (.cons (.imm rfl) (.cons (.imm rfl) (.cons (.imm rfl) (.cons (.imm rfl) (.cons (.imm rfl) (.cons (.imm rfl) (.cons (.imm rfl) (.cons (.imm rfl) (.cons (.imm rfl) (.cons (.imm rfl) (.cons (.imm rfl) (.cons (.imm rfl) (.cons (.imm rfl) (.cons (.imm rfl) (.cons (.rs hE rfl rfl rfl) (.cons (.imm rfl) (.cons (.imm rfl) (.cons (.imm rfl) .nil)))))))))))))))))))))) (fun e => by cases e)
theorem Za9 {m : Zai} {s : Mach} {d : List Dv.Id} {h : Zao} {q : Nat} (hq : q < s.stack.length - 1) : bigH d (mem m s) h (945, 0, q) = some (regB (s.stack.getD q default).regs) := by
  unfold bigH; rw [Zdr, Za0 hq]
theorem Zc7 (m : Zai) (s : Mach) (i : Nat) (hi : i < s.stack.length) (hF : OkF m (s.stack.getD i default)) : HG Try.prog (LW) 27 (mem m s) [.bp jB 0, .rp jF 5 i 0] (.agg (Zbl (Zas m (s.stack.getD i default)))) (mem m s) := by
  refine Za4 tok Try.func27 rfl (by decide +kernel) (Nat.le_of_ble_eq_true rfl) ?_
  have hmx : maxL = 4294967296 := rfl
  have f0 := hF.f0
  have f1 := hF.f1
  have b0 := hF.b0
  have b1 : (s.stack.getD i default).block < (m.funcs.getD (s.stack.getD i default).f.toNat default).blocks.length := hF.b1
  ((repeat' first | refine Zac ?_ | (refine Zab tok (by rfl) ?_; conv => whnf) | (refine Zap tok mix (by rfl) ?_; conv => whnf) | (refine Zaj ?_; conv => whnf) | (refine @And.intro (Zaa _ _ _ _) _ ?_ ?_; rotate_left; (conv => whnf); rotate_right)); all_goals (try ((guard_target = Zaa _ _ _ _); refine Zae ?_; (all_goals (try simp only [Zaa, kzz, kz11, kz12, maxL, Zad] at *)); all_goals omega)))
  refine ⟨_, srcL [], rfl, ?_⟩
  rw [← and_assoc]
  exact ⟨Zdd rfl rfl rfl (Zce rfl rfl rfl) rfl rfl rfl (fun q hq => Za0 hq), .agg (GVs.imm rfl), Zcq⟩
theorem c_mEnd (m : Zai) (s : Mach) (how w : Int) : HG Try.prog (LW) 40 (mem m s) [.bp jB 0, iv how, .int .u16 w] (.tup []) (mem m (endM s how w)) := by
  refine Za4 tok Try.func40 rfl (by decide +kernel) (Nat.le_of_ble_eq_true rfl) ?_
  (repeat' (refine Zab tok (by rfl) ?_; conv => whnf))
  refine ⟨_, srcL [], rfl, ?_⟩
  rw [← and_assoc]
  exact ⟨Zdd (s := s) rfl rfl rfl (Zce (s := endM s how w) rfl rfl rfl) rfl rfl rfl (fun q hq => Za0 hq), .tup .nil, Zcq⟩
end Go.Proofs.Ytoelbgjpmpoolaa
namespace Go.Proofs.Ytoelbgjpmpoolaa
open Go Dv
set_option maxRecDepth 10000
set_option linter.unusedSimpArgs false
theorem pop_getD {s : Mach} {q : Nat} (h : q < s.stack.length - 1) : (popM s).stack.getD q default = s.stack.getD q default := Zbv _ h
theorem c_mPop (m : Zai) (s : Mach) (h : 0 < s.stack.length) (hl : s.stack.length ≤ 1000) : HG Try.prog LW 42 (mem m s) [.bp jB 0] (.tup []) (mem m (popM s)) := by
  refine Za4 tok Try.func42 rfl (by decide +kernel) (Nat.le_of_ble_eq_true rfl) ?_
  have hmx : maxL = 4294967296 := rfl
  have hpl := Zcr (s := s)
  have hq : (IntKind.i64.wrap ((s.stack.length : Int) - 1)).toNat = s.stack.length - 1 := by rw [Zal (by omega) (by omega)]; omega
  ((repeat' first | (refine Zap tok mix (by rfl) ?_; conv => whnf) | (refine @And.intro (Zaa _ _ _ _) _ ?_ ?_; rotate_left; (conv => whnf); rotate_right)); all_goals (try ((guard_target = Zaa _ _ _ _); refine Zae ?_; (all_goals (try simp only [Zaa, kzz, kz11, kz12, maxL, Zad] at *)); (all_goals (try (simp (disch := omega) only [Zal]))); all_goals omega)))
  by_cases h1 : s.stack.length = 1
  · refine ⟨_, srcL [(jT, none)], rfl, Zeu rfl (fun i hi => by cases hi), fun j b e => ?_, .tup .nil, fun i hi hp => ?_⟩
    · rcases Zb4 e with ⟨rfl, rfl⟩ | ⟨rfl, rfl⟩ | ⟨rfl, rfl⟩ | ⟨rfl, rfl⟩ | ⟨q, rfl, hq2, rfl⟩
      · refine HOk.mk rfl rfl (GB.one ?_ (fun e => by cases e))
        refine .cons (.rs rfl rfl rfl ?_) (.cons (.imm rfl) (.cons (.imm rfl) (.cons (.imm rfl) (.cons (.imm rfl) (.cons (.imm rfl) (.cons (.imm rfl) (.cons (.imm rfl) (.cons (.imm rfl) (.cons (.imm rfl) (.cons (.imm rfl) (.cons (.imm rfl) (.cons (.imm rfl) (.cons (.imm rfl) (.cons (.imm rfl) (.cons (.imm rfl) (.cons (.imm rfl) (.cons (.imm rfl) (.cons (.rs rfl rfl rfl rfl) (.cons (.imm rfl) (.cons (.imm rfl) (.cons (.imm rfl) .nil)))))))))))))))))))))
        rw [hq, hpl]; simp
      · refine HOk.mk rfl rfl ?_
        exact GB.row (by rw [hpl]; exact Nat.sub_le _ _) (fun q hq2 => by omega) (fun e => by cases e)
      · exact HOk.mk rfl rfl (Zd4 _)
      · refine ⟨true, 1, fun x => [.int .u16 (([] : List Int).getD x 0)], ?_⟩
        have : (topF (popM s)).regs = [] := by
          unfold topF
          rw [List.getD_eq_getElem?_getD, List.getElem?_eq_none (by omega)]; rfl
        rw [this]; rfl
      · omega
    · first | (rcases List.mem_cons.1 hi with rfl | hi; exact ⟨rfl, rfl⟩; rw [List.mem_singleton.1 hi]; exact ⟨rfl, rfl⟩)
  · have h2 : s.stack.length - 2 < s.stack.length - 1 := by omega
    have htop : topF (popM s) = s.stack.getD (s.stack.length - 2) default := by
      unfold topF; rw [Zcr]; show (s.stack.take (s.stack.length - 1)).getD (s.stack.length - 1 - 1) default = _
      rw [Zbv _ (by omega)]; rfl
    refine ⟨_, srcL [(jT, some (945, 0, s.stack.length - 2))], rfl, Zeu rfl (fun i hi => ?_), fun j b e => ?_, .tup .nil, fun i hi hp => ?_⟩
    · rw [List.mem_singleton.1 (show i ∈ [(945, 0, s.stack.length - 2)] from hi)]
      exact .inl (Zan (by rw [hpl]; omega))
    · rcases Zb4 e with ⟨rfl, rfl⟩ | ⟨rfl, rfl⟩ | ⟨rfl, rfl⟩ | ⟨rfl, rfl⟩ | ⟨q, rfl, hq2, rfl⟩
      · refine HOk.mk rfl rfl (GB.one ?_ (fun e => by cases e))
        refine .cons (.rs rfl rfl rfl ?_) (.cons (.imm rfl) (.cons (.imm rfl) (.cons (.imm rfl) (.cons (.imm rfl) (.cons (.imm rfl) (.cons (.imm rfl) (.cons (.imm rfl) (.cons (.imm rfl) (.cons (.imm rfl) (.cons (.imm rfl) (.cons (.imm rfl) (.cons (.imm rfl) (.cons (.imm rfl) (.cons (.imm rfl) (.cons (.imm rfl) (.cons (.imm rfl) (.cons (.imm rfl) (.cons (.rs rfl rfl rfl rfl) (.cons (.imm rfl) (.cons (.imm rfl) (.cons (.imm rfl) .nil)))))))))))))))))))))
        rw [hq, hpl]; simp
      · refine HOk.mk rfl rfl ?_
        refine GB.row (by rw [hpl]; exact Nat.sub_le _ _) (fun q hq2 => ?_) (fun e => by cases e)
        rw [hpl] at hq2
        show GVs _ _ _ (frC s.stack q) (frC (popM s).stack q)
        unfold frC
        rw [pop_getD hq2]
        refine .cons (.imm rfl) (.cons (.imm rfl) (.cons (.imm rfl) (.cons ?_ (.cons (.imm rfl) .nil))))
        unfold Zbg
        rw [pop_getD hq2]
        by_cases e : q < s.stack.length - 2
        · exact .cc (Zb9 hq2) (Zb9 (by rw [hpl]; omega)) (.rs ((Zdr (m := m) (s := popM s)).trans (Za0 (by rw [hpl]; omega))) rfl rfl rfl)
        · have : q = s.stack.length - 2 := by omega
          subst this
          exact .cc (Zb9 hq2) (Zdc (by rw [hpl]; omega)) (.rs rfl rfl rfl rfl)
      · exact HOk.mk rfl rfl (Zd4 _)
      · refine HOk.mk rfl (Za0 (l := s.stack) h2) ?_
        rw [htop]; exact Zbs _
      · rw [hpl] at hq2
        refine HOk.mk rfl (Za0 (l := s.stack) (show q < s.stack.length - 1 by omega)) ?_
        rw [pop_getD (by omega)]; exact Zbs _
    · first | (rcases List.mem_cons.1 hi with rfl | hi; exact ⟨rfl, rfl⟩; rw [List.mem_singleton.1 hi]; exact ⟨rfl, rfl⟩)
end Go.Proofs.Ytoelbgjpmpoolaa
namespace Go.Proofs.Ytoelbgjpmpoolaa
open Go Dv
set_option maxRecDepth 10000
set_option linter.unusedSimpArgs false
def padV (m : Zai) (f : Zaw) : Int × Pad × Bool := if endB m f = true ∧ (Zas m f).fin.kind = 4 then ((Zas m f).fin.pad, padF m f, true) else (0, ⟨0, [], false, false⟩, false)
set_option maxHeartbeats 2000000 in
theorem c_mPad (m : Zai) (s : Mach) (i : Nat) (hi : i < s.stack.length) (h32 : s.stack.length ≤ 32) (hF : OkF m (s.stack.getD i default)) (hp : (Zas m (s.stack.getD i default)).fin.kind = 4 → 0 ≤ (Zas m (s.stack.getD i default)).fin.pad ∧ (Zas m (s.stack.getD i default)).fin.pad < (Zdk m (s.stack.getD i default)).blocks.length) :
    HG Try.prog (LW) 46 (mem m s) [.bp jB 0, .rp jF 5 i 0] (.tup [iv (padV m (s.stack.getD i default)).1, .agg (encPad (padV m (s.stack.getD i default)).2.1), .bool (padV m (s.stack.getD i default)).2.2]) (mem m s) := by
  refine Za4 tok Try.func46 rfl (by decide +kernel) (Nat.le_of_ble_eq_true rfl) ?_
  have hmx : maxL = 4294967296 := rfl
  have hB := Zc7 m s i hi hF
  have f0 := hF.f0
  have f1 := hF.f1
  have a0 := hF.a0
  have a1 := hF.a1
  have hE : endB m (s.stack.getD i default) = decide ((s.stack.getD i default).at_ = (Zas m (s.stack.getD i default)).ins.length) := rfl
  have hpl : (Zas m (s.stack.getD i default)).fin.kind = 4 → 0 ≤ (Zas m (s.stack.getD i default)).fin.pad ∧ (Zas m (s.stack.getD i default)).fin.pad < (m.funcs.getD (s.stack.getD i default).f.toNat default).blocks.length := hp
  have hpf : padF m (s.stack.getD i default) = ((m.funcs.getD (s.stack.getD i default).f.toNat default).blocks.getD (Zas m (s.stack.getD i default)).fin.pad.toNat default).pad := rfl
  have hV : padV m (s.stack.getD i default) = if endB m (s.stack.getD i default) = true ∧ (Zas m (s.stack.getD i default)).fin.kind = 4 then ((Zas m (s.stack.getD i default)).fin.pad, padF m (s.stack.getD i default), true) else (0, ⟨0, [], false, false⟩, false) := rfl
  have hgen : ∃ b, Zas m (s.stack.getD i default) = b := ⟨_, rfl⟩
  obtain ⟨b, hbe⟩ := hgen
  rw [hbe] at hB hE hpl hpf hV a1
  (repeat' first | refine Zac ?_ | (refine Zab tok (by rfl) ?_; conv => whnf))
  refine .inr ⟨_, _, _, uG (QH.tnM (by simp) (by simp) hB h32 (Zaz rfl rfl rfl rfl (fun _ => rfl)) rfl (fun q hq => Zan hq)), ?_⟩
  conv => whnf
  ((repeat' ((fail_if_success (show AWp _ _ _ (Code.region 3 _ _) _ _)); (fail_if_success (show AWp _ _ _ (Code.region 4 _ _) _ _)); first | refine Zac ?_ | (refine Zap tok mix (by rfl) ?_; conv => whnf) | (refine Zag ?_; conv => whnf) | refine Zaf rfl (fun hb => ?_) (fun hb => ?_) | (refine @And.intro (Zaa _ _ _ _) _ ?_ ?_; rotate_left; (conv => whnf); rotate_right))); all_goals (try ((guard_target = Zaa _ _ _ _); refine Zae ?_; (all_goals (try simp only [Zaa, kzz, kz11, kz12, maxL, Zad] at *)); all_goals omega)))
  · have hn : ¬ (endB m (s.stack.getD i default) = true ∧ b.fin.kind = 4) := by
      rintro ⟨h1, h2⟩
      rw [hE, decide_eq_true_eq] at h1
      rw [decide_eq_false (show ¬ (s.stack.getD i default).at_ < (b.ins.length : Int) by omega), decide_eq_true h2] at hb
      cases hb
    rw [if_neg hn] at hV
    rw [hV]
    (repeat' first | (refine Zab tok (by rfl) ?_; conv => whnf) | (refine Zaj ?_; conv => whnf))
    refine ⟨_, srcL [], rfl, ?_⟩
    rw [← and_assoc]
    exact ⟨Zdd rfl rfl rfl (Zce rfl rfl rfl) rfl rfl rfl (fun q hq => Za9 hq), .tup (.cons (.imm rfl) (.cons (.agg (.cons (.imm rfl) (.cons (.wk rfl (.nsl rfl)) (.cons (.imm rfl) (.cons (.imm rfl) .nil))))) (.cons (.imm rfl) .nil))), Zcq⟩
  have hy : endB m (s.stack.getD i default) = true ∧ b.fin.kind = 4 := by
    rw [hE, decide_eq_true_eq]
    by_cases e1 : (s.stack.getD i default).at_ < (b.ins.length : Int)
    · rw [decide_eq_true e1] at hb; cases hb
    · rw [decide_eq_false e1] at hb
      by_cases e2 : b.fin.kind = 4
      · exact ⟨by omega, e2⟩
      · rw [decide_eq_false e2] at hb; cases hb
  clear hb
  rw [if_pos hy] at hV
  rw [hV]
  obtain ⟨hp0, hp1⟩ := hpl hy.2
  ((repeat' first | (refine Zap tok mix (by rfl) ?_; conv => whnf) | (refine Zaj ?_; conv => whnf) | (refine @And.intro (Zaa _ _ _ _) _ ?_ ?_; rotate_left; (conv => whnf); rotate_right)); all_goals (try ((guard_target = Zaa _ _ _ _); refine Zae ?_; (all_goals (try simp only [Zaa, kzz, kz11, kz12, maxL, Zad] at *)); all_goals omega)))
  refine ⟨_, srcL [], rfl, ?_⟩
  rw [← and_assoc]
  rw [hpf]
  exact ⟨Zdd rfl rfl rfl (Zce rfl rfl rfl) rfl rfl rfl (fun q hq => Za9 hq), .tup (.cons (.imm rfl) (.cons (.agg (GVs.imm rfl)) (.cons (.imm rfl) .nil))), Zcq⟩
end Go.Proofs.Ytoelbgjpmpoolaa
namespace Go.Proofs.Ytoelbgjpmpoolaa
open Go Dv
set_option maxRecDepth 10000
set_option linter.unusedSimpArgs false
end Go.Proofs.Ytoelbgjpmpoolaa
namespace Go.Proofs.Ytoelbgjpmpoolaa
open Go Dv
set_option maxRecDepth 10000
set_option linter.unusedSimpArgs false
def smallB (m : Zai) (inputs : List Int) : Bool := shortB m && decide (inputs.length ≤ 30)
theorem c_r6Small (m : Zai) (inputs : List Int) : FC Try.prog 7 [.agg (Zbf m), u16s inputs] (.bool (smallB m inputs)) := by
  refine Zax tok Try.func7 rfl (by decide +kernel) (Nat.le_of_ble_eq_true rfl) ?_
  (repeat' first | refine Zac ?_ | (refine Zab tok (by rfl) ?_; conv => whnf))
  refine .inl ⟨_, _, _, uG (QC.fc (c_Short m) rfl), ?_⟩
  conv => whnf
  (repeat' (refine Zaj ?_; conv => whnf))
  refine ⟨_, rfl, Rel.bool ?_⟩
  unfold smallB
  cases shortB m
  · rfl
  · simp only [cond_true, Bool.true_and]
    by_cases e : inputs.length ≤ 30
    · rw [decide_eq_true e, decide_eq_true (by omega)]
    · rw [decide_eq_false e, decide_eq_false (by omega)]
end Go.Proofs.Ytoelbgjpmpoolaa
namespace Go.Proofs.Ytoelbgjpmpoolaa
open Go Dv
set_option maxRecDepth 10000
set_option linter.unusedSimpArgs false
structure RelL (P : Zaw → Zaw → Prop) (a b : List Zaw) : Prop where
  len : a.length = b.length
  at_ : ∀ i, i < a.length → P (a.getD i default) (b.getD i default)
theorem RelL.take {P : Zaw → Zaw → Prop} {a b : List Zaw} (h : RelL P a b) (k : Nat) : RelL P (a.take k) (b.take k) := by
  refine ⟨by rw [List.length_take, List.length_take, h.len], fun i hi => ?_⟩
  rw [List.length_take] at hi
  rw [Zbv _ (by omega), Zbv _ (by omega)]
  exact h.at_ i (by omega)
theorem Zc6 {l : List Zaw} {x : Zaw} {i : Nat} : (l ++ [x]).getD i default = if i < l.length then l.getD i default else if i = l.length then x else default := by
  by_cases h1 : i < l.length
  · rw [if_pos h1]; simp [List.getD_eq_getElem?_getD, List.getElem?_append_left h1]
  · rw [if_neg h1]
    by_cases h2 : i = l.length
    · rw [if_pos h2]; subst h2; simp [List.getD_eq_getElem?_getD]
    · rw [if_neg h2, List.getD_eq_getElem?_getD, List.getElem?_eq_none (by simp; omega)]; rfl
theorem RelL.app {P : Zaw → Zaw → Prop} {a b : List Zaw} (h : RelL P a b) {f g : Zaw} (hp : P f g) : RelL P (a ++ [f]) (b ++ [g]) := by
  refine ⟨by simp [h.len], fun i hi => ?_⟩
  rw [List.length_append, List.length_singleton] at hi
  rw [Zc6, Zc6, ← h.len]
  by_cases h1 : i < a.length
  · rw [if_pos h1, if_pos h1]; exact h.at_ i h1
  · rw [if_neg h1, if_neg h1, if_pos (by omega), if_pos (by omega)]; exact hp
end Go.Proofs.Ytoelbgjpmpoolaa
namespace Go.Proofs.Ytoelbgjpmpoolaa
open Go Dv
set_option maxRecDepth 10000
set_option linter.unusedSimpArgs false
theorem Zd7 {src : Dv.Id → Option Dv.Id} {m : Zai} {s : Mach} {h h' : Zao} {imm : Bool} {f : Nat → List AV} (hf : f 0 = macC m s) (sF : src jF = some jF) (sE : src jE = some jE) (hF : (h' jF).isSome = true) (hE : (h' jE).isSome = true) : GB src h h' (.row imm 22 1 f) (macB m s) := by
  cases e1 : h' jF with
  | none => rw [e1] at hF; cases hF
  | some b1 =>
    cases e2 : h' jE with
    | none => rw [e2] at hE; cases hE
    | some b2 =>
      refine GB.one ?_ (fun e => by cases e)
      rw [hf]
      exact (.cons (.rs e1 sF rfl rfl) (.cons (.imm rfl) (.cons (.imm rfl) (.cons (.imm rfl) (.cons (.imm rfl) (.cons (.imm rfl) (.cons (.imm rfl) (.cons (.imm rfl) (.cons (.imm rfl) (.cons (.imm rfl) (.cons (.imm rfl) (.cons (.imm rfl) (.cons (.imm rfl) (.cons (.imm rfl) (.cons (.imm rfl) (.cons (.imm rfl) (.cons (.imm rfl) (.cons (.imm rfl) (.cons (.rs e2 sE rfl rfl) (.cons (.imm rfl) (.cons (.imm rfl) (.cons (.imm rfl) .nil))))))))))))))))))))))
theorem Zck {src : Dv.Id → Option Dv.Id} {m : Zai} {s : Mach} {h h' : Zao} (sB : src jB = some jB) (sF : src jF = some jF) (sE : src jE = some jE) (sT : src jT = some jT) (sW : ∀ q, src (945, 0, q) = some (945, 0, q)) (h1 : h jB = some (macB m s)) (h2 : h jF = some (Zcx s.stack)) (h3 : h jE = some (evB s.events)) (h4 : h jT = some (regB (topF s).regs))
    (k2 : (h' jF).isSome = true) (k3 : (h' jE).isSome = true) (k4 : (h' jT).isSome = true) (k5 : ∀ q, q < s.stack.length - 1 → (h' (945, 0, q)).isSome = true) : HLs src h h' (memL m s) :=
  .old sB h1 (Zd7 rfl sF sE k2 k3) (.old sF h2 (GB_fr (fun q _ => sW q) sT k5 k4) (.old sE h3 (Zd4 _) (.old sT h4 (Zbs _) .nil)))
theorem Zcg {l : List Zaw} {q : Nat} (hq : q < l.length - 1) : (famW l (945, 0, q)).isSome = true := by rw [Za0 hq]; rfl
theorem map_regAV {ρ : Dv.Id → Option Dv.Id} {l : List Zaw} (h1 : ∀ q, ρ (945, 0, q) = some (945, 0, q)) (h2 : ρ jT = some jT) (q : Nat) : Zbh ρ (Zbg l q) = Zbg l q := by
  unfold Zbg
  cases Nat.blt q (l.length - 1) with
  | true => show (match ρ (945, 0, q) with | some j => AV.rs j 1 0 _ | none => .any) = _; rw [h1]; rfl
  | false => show (match ρ jT with | some j => AV.rs j 1 0 _ | none => .any) = _; rw [h2]; rfl
theorem map_fr {ρ : Dv.Id → Option Dv.Id} {l : List Zaw} (h1 : ∀ q, ρ (945, 0, q) = some (945, 0, q)) (h2 : ρ jT = some jT) : Dv.mapB ρ (Zcx l) = Zcx l := by
  show Zam.row false 5 l.length (fun q => Zbk ρ (frC l q)) = Zam.row false 5 l.length (frC l)
  congr 1
  funext q
  show [_, _, _, Zbh ρ (Zbg l q), _] = _
  rw [map_regAV h1 h2]; rfl
theorem killH_fam {h : Zao} {i : Dv.Id} {q : Nat} {l : List Int} (hi : idEq i (945, 0, q) = false) (e : h (945, 0, q) = some (regB l)) : killH i h (945, 0, q) = some (regB l) := by
  unfold killH; rw [hi, e]; rfl
theorem Zes {d : List Dv.Id} {u h : Zao} {q : Nat} {l : List Int} (hu : u (945, 0, q) = none) (hd : memI (945, 0, q) d = false) (e : h (945, 0, q) = some (regB l)) : bigH d u h (945, 0, q) = some (regB l) := by
  unfold bigH; rw [hu, hd, e]
  cases d <;> rfl
theorem Zbe {s : Mach} (h : 0 < s.stack.length) {q : Nat} (hq : q = s.stack.length - 1) : Zbg s.stack q = .rs jT 1 0 (topF s).regs.length := by
  subst hq; unfold Zbg; rw [Zdc (Nat.le_refl _)]; rfl
set_option maxHeartbeats 4000000 in
theorem c_mCall (m : Zai) (s : Mach) (n : Int) (places : List Int) (hr : Zbj m = true) (h : 0 < s.stack.length) (h32 : s.stack.length ≤ 32) (h0 : 0 ≤ n) (h1 : n < m.funcs.length) (hp : (places.length : Int) = (m.funcs.getD n.toNat default).params)
    (hpl : ∀ p ∈ places, 0 ≤ p ∧ p < (topF s).regs.length) : HG Try.prog [jB] 31 (mem m s) [.bp jB 0, iv n, ints places] (.tup []) (mem m (Zb0 m s n places)) := by
  refine Za4 tok Try.func31 rfl (by decide +kernel) (Nat.le_of_ble_eq_true rfl) ?_
  have hmx : maxL = 4294967296 := rfl
  have hT := Zfe m s h (by omega)
  have hp8 : places.length ≤ 8 := by
    have := (okF_funP (Zev hr (show n.toNat < m.funcs.length by omega))).2.1
    omega
  (repeat' ((fail_if_success (show AWp _ _ _ (Code.region 1 _ _) _ _)); (fail_if_success (show AWp _ _ _ (Code.region 2 _ _) _ _)); first | refine Zac ?_ | (refine Zab tok (by rfl) ?_; conv => whnf) | (refine Zag ?_; conv => whnf) | refine Zaf rfl (fun hb => ?_) (fun hb => ?_)))
  · have h32' : 32 ≤ s.stack.length := by simp only [decide_eq_true_eq] at hb; omega
    clear hb
    rw [show Zb0 m s n places = endM s 5 0 from if_pos h32']
    (repeat' (refine Zab tok (by rfl) ?_; conv => whnf))
    refine .inr ⟨_, _, _, uG (QH.tnM (by simp) (by simp) (c_mEnd m s 5 0) h32 (Zaz rfl rfl rfl rfl (fun _ => rfl)) rfl (fun q hq => Zan hq)), ?_⟩
    conv => whnf
    (repeat' (refine Zaj ?_; conv => whnf))
    refine ⟨_, srcL [], rfl, ?_⟩
    rw [← and_assoc]
    refine ⟨Zdd (s := endM s 5 0) rfl rfl rfl (Zce rfl rfl rfl) rfl rfl rfl (fun q hq => Za9 (s := endM s 5 0) hq), .tup .nil, fun i hi _ => ?_⟩
    rw [List.mem_singleton.1 hi]; exact ⟨rfl, rfl⟩
  have h32' : ¬ 32 ≤ s.stack.length := by simp only [decide_eq_false_iff_not] at hb; omega
  clear hb
  have hcm : Zb0 m s n places = { s with stack := s.stack ++ [frN m n (Zc4 (topF s) places)] } := if_neg h32'
  (repeat' ((fail_if_success (show AWp _ _ _ (Code.region 4 _ _) _ _)); first | refine Zac ?_ | (refine Zab tok (by rfl) ?_; conv => whnf) | refine Zak ?_))
  refine Za5 (fun j : Nat => mkF [(0, .bp jB 0), (1, iv n), (2, ints places), (6, .rs (101, 0, 0) 1 0 j), (20, ints places), (21, iv places.length), (22, iv j)] ([((101, 0, 0), .row true 1 j (fun q => [.int .u16 ((Zc4 (topF s) places).getD q 0)]))] ++ memL m s) (famW s.stack)) (fun j => j ≤ places.length) (fun j => places.length - j) 0 (Nat.zero_le _) ?_ ?_
  · refine Weak.fam (L := [jB]) (tl := [(0, .bp jB 0), (1, iv n), (2, ints places), (6, .rs (101, 0, 0) 1 0 0), (20, ints places), (21, iv places.length), (22, iv 0)]) (hl := [((101, 0, 0), .row true 1 0 (fun q => [.int .u16 ((Zc4 (topF s) places).getD q 0)]))] ++ memL m s) (F := famW s.stack) [((101, 0, 0), none)] rfl (fun c hc => by cases hc) ?_ ?_ ?_ (fun i hi _ => by rw [List.mem_singleton.1 hi]; exact ⟨rfl, rfl⟩)
    · exact .cons (.bp rfl rfl) (.cons (.imm rfl) (.cons (.imm rfl) (.cons (.nil rfl rfl rfl) (.cons (.imm rfl) (.cons (.imm rfl) (.cons (.imm rfl) .nil))))))
    · exact .new rfl (Zck rfl rfl rfl rfl (fun _ => rfl) rfl rfl rfl rfl rfl rfl rfl (fun q hq => Zcg hq))
    · exact Ze9 (fun _ _ => rfl) (fun q hq => Za0 hq)
  intro j hj
  (repeat' ((fail_if_success (show AWp _ _ _ (Code.region 5 _ _) _ _)); (fail_if_success (show AWp _ _ _ (Code.region 8 _ _) _ _)); first | refine Zac ?_ | (refine Zab tok (by rfl) ?_; conv => whnf) | refine Zak ?_ | (refine Zag ?_; conv => whnf) | (refine Za8 ?_; conv => whnf) | refine Zaf rfl (fun hb => ?_) (fun hb => ?_)))
  · have hlt : j < places.length := by simp only [decide_eq_true_eq] at hb; omega
    clear hb
    have hjz : (j : Int).toNat = j := by simp
    have hpj := hpl _ (Zc2 0 hlt)
    have hpj' : 0 ≤ places.getD (j : Int).toNat 0 ∧ places.getD (j : Int).toNat 0 < (topF s).regs.length := by rw [hjz]; exact hpj
    ((repeat' first | (refine Zab tok (by rfl) ?_; conv => whnf) | (refine @And.intro (Zaa _ _ _ _) _ ?_ ?_; rotate_left; (conv => whnf); rotate_right)); all_goals (try ((guard_target = Zaa _ _ _ _); refine Zae ?_; (all_goals (try simp only [Zaa, kzz, kz11, kz12, maxL, Zad] at *)); all_goals omega)))
    refine .inr ⟨_, _, _, uG (QH.tnM (by simp) (by simp) hT h32 (Zaz rfl rfl rfl rfl (fun _ => rfl)) rfl (fun q hq => Zan hq)), ?_⟩
    conv => whnf
    ((repeat' (refine @And.intro (Zaa _ _ _ _) _ ?_ ?_; rotate_left; (conv => whnf); rotate_right)); all_goals (try ((guard_target = Zaa _ _ _ _); refine Zae ?_; (all_goals (try simp only [Zaa, kzz, kz11, kz12, maxL, Zad] at *)); all_goals omega)))
    refine fAV (y := .rs jT 1 0 (topF s).regs.length) ?_ ?_
    · exact Zbe h rfl
    conv => whnf
    have hv : (topF s).regs.getD (0 + (places.getD (j : Int).toNat 0).toNat) 0 = (Zc4 (topF s) places).getD j 0 := by
      unfold Zc4
      rw [Nat.zero_add, hjz, List.getD_eq_getElem?_getD (l := places.map _), List.getElem?_map, List.getElem?_eq_getElem hlt, Zci 0 hlt]; rfl
    ((repeat' first | (refine Zab tok (by rfl) ?_; conv => whnf) | (refine @And.intro (Zaa _ _ _ _) _ ?_ ?_; rotate_left; (conv => whnf); rotate_right)); all_goals (try ((guard_target = Zaa _ _ _ _); refine Zae ?_; (first | refine And.intro (srcObl_rs rfl ?_) ?_ | skip); (all_goals (try simp only [Zaa, kzz, kz11, kz12, maxL, Zad] at *)); all_goals omega)))
    refine ⟨j + 1, hlt, by omega, ?_⟩
    refine Weak.fam (L := [jB]) (tl := [(0, .bp jB 0), (1, iv n), (2, ints places), (6, .rs (101, 0, 0) 1 0 (j + 1)), (20, ints places), (21, iv places.length), (22, iv (j + 1))]) (hl := [((101, 0, 0), .row true 1 (j + 1) (fun q => [.int .u16 ((Zc4 (topF s) places).getD q 0)]))] ++ memL m s) (F := famW s.stack) [((101, 0, 0), some (36, 0, 0))] rfl (fun c hc => ?_) ?_ ?_ ?_ (fun i hi _ => by rw [List.mem_singleton.1 hi]; exact ⟨rfl, rfl⟩)
    · rw [List.mem_singleton.1 (show c ∈ [(36, 0, 0)] from hc)]; exact .inl rfl
    · exact .cons (.bp rfl rfl) (.cons (.imm rfl) (.cons (.imm rfl) (.cons (.rs rfl rfl rfl rfl) (.cons (.imm rfl) (.cons (.imm rfl) (.cons (.int (Zal (by omega) (by omega))) .nil))))))
    · refine .old rfl rfl (GB.rowI (Nat.le_refl _) (fun q hq => ?_)) (Zck rfl rfl rfl rfl (fun _ => rfl) rfl ((congrArg (Option.map (Dv.mapB (kill (101, 0, 0)))) (rfl : some (Zcx s.stack) = some (Zcx s.stack))).trans (by rw [Option.map_some, map_fr (ρ := kill (101, 0, 0)) (fun _ => rfl) rfl])) rfl rfl rfl rfl rfl (fun q hq => Zcg hq))
      have e := appF (g := fun q => (Zc4 (topF s) places).getD q 0) hq hv
      simp only [allB, Zcn, Bool.true_and, Bool.and_true, Bool.and_self, cond_true]
      exact ⟨by rw [show appR j (fun q => [AV.int IntKind.u16 ((Zc4 (topF s) places).getD q 0)]) _ q = _ from e]; rfl, e⟩
    · refine Ze9 (fun _ _ => rfl) (fun q hq => ?_)
      refine killH_fam (i := (101, 0, 0)) rfl ?_
      exact Za9 hq
  · have hjl : j = places.length := by simp only [decide_eq_false_iff_not] at hb; omega
    clear hb
    subst hjl
    have hal : (Zc4 (topF s) places).length = places.length := by simp [Zc4]
    have hN := c_fNew m n (Zc4 (topF s) places) hr h0 h1 (by rw [hal]; exact hp)
    (repeat' (refine Zab tok (by rfl) ?_; conv => whnf))
    refine .inr ⟨_, _, _, uG (QH.giveF (rd := [(101, 0, 0)]) hN (.cons (.imm rfl) (.cons (.imm rfl) (.cons (.row rfl (.head _) rfl hal.symm (fun q hq => rfl)) .nil))) (fun i hi => by rw [Zcz hi]; rfl)), ?_⟩
    conv => whnf
    skip
    refine Zau (Weak.fam (L := [jB]) (tl := [(0, .bp jB 0), (1, iv n), (2, ints places), (9, .bp (9, 0, 0) 0)]) (hl := [((1, 7, 0), .row false 22 1 (fun _ => macX (103, 0, 0) m s)), ((103, 0, 0), Zcx s.stack), ((942, 0, 0), evB s.events), ((944, 0, 0), regB (topF s).regs), ((9, 0, 0), .row false 5 1 (fun _ => frO (frN m n (Zc4 (topF s) places)) (.rs r0 1 0 (frN m n (Zc4 (topF s) places)).regs.length))), ((905, 0, 0), regB (frN m n (Zc4 (topF s) places)).regs)]) (F := famW s.stack) [((103, 0, 0), some jF)] rfl (fun c hc => ?_) ?_ ?_ ?_ (fun i hi _ => by rw [List.mem_singleton.1 hi]; exact ⟨rfl, rfl⟩)) ?_
    · rw [List.mem_singleton.1 (show c ∈ [jF] from hc)]; exact .inl rfl
    · exact .cons (.bp rfl rfl) (.cons (.imm rfl) (.cons (.imm rfl) (.cons (.bp rfl rfl) .nil)))
    · refine .old rfl rfl (GB.one ?_ (fun e => by cases e)) (.old rfl rfl ?_ (.old rfl rfl (Zd4 _) (.old rfl rfl (Zbs _) (.old rfl rfl (GB.one (.cons (.imm rfl) (.cons (.imm rfl) (.cons (.imm rfl) (.cons (.rs rfl rfl rfl rfl) (.cons (.imm rfl) .nil))))) (fun e => by cases e)) (.old rfl rfl (Zbs _) .nil)))))
      rotate_left
      · show GB _ _ _ (mapKB [(101, 0, 0)] (Zcx s.stack)) (Zcx s.stack)
        rw [mapKB_eq, map_fr (ρ := killL [(101, 0, 0)]) (fun _ => rfl) rfl]
        refine GB_fr (fun _ _ => rfl) rfl (fun q hq => ?_) rfl
        exact Zcg hq
      exact (.cons (.rs rfl rfl rfl rfl) (.cons (.imm rfl) (.cons (.imm rfl) (.cons (.imm rfl) (.cons (.imm rfl) (.cons (.imm rfl) (.cons (.imm rfl) (.cons (.imm rfl) (.cons (.imm rfl) (.cons (.imm rfl) (.cons (.imm rfl) (.cons (.imm rfl) (.cons (.imm rfl) (.cons (.imm rfl) (.cons (.imm rfl) (.cons (.imm rfl) (.cons (.imm rfl) (.cons (.imm rfl) (.cons (.rs rfl rfl rfl rfl) (.cons (.imm rfl) (.cons (.imm rfl) (.cons (.imm rfl) .nil))))))))))))))))))))))
    · refine Ze9 (fun _ _ => rfl) (fun q hq => ?_)
      refine Zes (d := [(101, 0, 0)]) (u := oneR (frN m n (Zc4 (topF s) places)).regs) rfl rfl ?_
      exact Za0 hq
    refine Zdx tok mix (by rfl) [0, 1, 2, 3, 4, 5, 6, 9, 10, 11] 30 (by rfl) (by rfl) (by rfl) ?_
    conv => whnf
    repeat' first
      | (refine @And.intro (Zaa _ _ _ _) _ ?_ ?_; rotate_left; (conv => whnf); rotate_right)
      | (guard_target = And _ _; refine @And.intro (gOp _ _ _ _ _ _ _ _ _) _ (by (conv => whnf); exact ⟨rfl, rfl⟩) ?_; conv => whnf)
      | (guard_target = And _ _; refine And.intro ?_ ?_ <;> (conv => whnf))
    all_goals (try ((guard_target = Zaa _ _ _ _); refine Zae ?_; (first | refine And.intro (srcObl_rs rfl ?_) ?_ | skip); (all_goals (try simp only [Zaa, kzz, kz11, kz12, maxL, Zad] at *)); all_goals omega))
    all_goals skip
    rw [hcm]
    have hg : frN m n (Zc4 (topF s) places) = frN m n (Zc4 (topF s) places) := rfl
    generalize frN m n (Zc4 (topF s) places) = g
    have hlen : (s.stack ++ [g]).length = s.stack.length + 1 := by simp
    have htop : topF { s with stack := s.stack ++ [g] } = g := by
      unfold topF; show (s.stack ++ [g]).getD ((s.stack ++ [g]).length - 1) default = g
      rw [hlen, Zc6, if_neg (by omega), if_pos (by omega)]
    have hold : ∀ q, q < s.stack.length → (s.stack ++ [g]).getD q default = s.stack.getD q default := fun q hq => by rw [Zc6, if_pos hq]
    have hnew : (s.stack ++ [g]).getD s.stack.length default = g := by rw [Zc6, if_neg (by omega), if_pos rfl]
    have hs1 : ∀ q, q < s.stack.length - 1 → srcL [(jF, some (56, 0, 0)), (jT, some r0), ((945, 0, s.stack.length - 1), some jT)] (945, 0, q) = some (945, 0, q) := fun q hq => by
      show (bif idEq (945, 0, s.stack.length - 1) (945, 0, q) then some jT else some (945, 0, q)) = _
      rw [Zbr.2 (fun e => by injection e with _ e; injection e with e _; omega)]; rfl
    have hs2 : srcL [(jF, some (56, 0, 0)), (jT, some r0), ((945, 0, s.stack.length - 1), some jT)] (945, 0, s.stack.length - 1) = some jT := by
      show (bif idEq (945, 0, s.stack.length - 1) (945, 0, s.stack.length - 1) then some jT else some (945, 0, s.stack.length - 1)) = _
      rw [Zav.2 rfl]; rfl
    refine ⟨_, srcL [(jF, some (56, 0, 0)), (jT, some r0), ((945, 0, s.stack.length - 1), some jT)], rfl, Zeu rfl (fun i hi => ?_), fun j b e => ?_, .tup .nil, fun i hi _ => ?_⟩
    · rcases List.mem_cons.1 (show i ∈ [(56, 0, 0), r0, jT] from hi) with rfl | hi
      · exact .inl rfl
      rcases List.mem_cons.1 hi with rfl | hi
      · exact .inl rfl
      rw [List.mem_singleton.1 hi]; exact .inr (by simp)
    · rcases Zb4 e with ⟨rfl, rfl⟩ | ⟨rfl, rfl⟩ | ⟨rfl, rfl⟩ | ⟨rfl, rfl⟩ | ⟨q, rfl, hq2, rfl⟩
      · refine HOk.mk rfl rfl (GB.one ?_ (fun e => by cases e))
        refine .cons (.rs rfl rfl rfl hlen.symm) (.cons (.imm rfl) (.cons (.imm rfl) (.cons (.imm rfl) (.cons (.imm rfl) (.cons (.imm rfl) (.cons (.imm rfl) (.cons (.imm rfl) (.cons (.imm rfl) (.cons (.imm rfl) (.cons (.imm rfl) (.cons (.imm rfl) (.cons (.imm rfl) (.cons (.imm rfl) (.cons (.imm rfl) (.cons (.imm rfl) (.cons (.imm rfl) (.cons (.imm rfl) (.cons (.rs rfl rfl rfl rfl) (.cons (.imm rfl) (.cons (.imm rfl) (.cons (.imm rfl) .nil)))))))))))))))))))))
      · refine HOk.mk rfl rfl ?_
        refine GB.row (Nat.le_of_eq hlen) (fun q hq => ?_) (fun e => by cases e)
        have hq3 : q < s.stack.length + 1 := by rw [← hlen]; exact hq
        show GVs _ _ _ (Zbk (kill (103, 0, 0)) (appR s.stack.length (frC s.stack) (fun i => rowOf 5 (frO g (.rs r0 1 0 g.regs.length)) (0 + i)) q)) (frC (s.stack ++ [g]) q)
        by_cases e1 : q < s.stack.length
        · have ea : appR s.stack.length (frC s.stack) (fun i => rowOf 5 (frO g (.rs r0 1 0 g.regs.length)) (0 + i)) q = frC s.stack q := by
            unfold appR; rw [show Nat.blt q s.stack.length = true from by rw [Nat.blt_eq]; exact e1]; rfl
          have eb : Zbk (kill (103, 0, 0)) (frC s.stack q) = frC s.stack q := by
            show [_, _, _, Zbh _ (Zbg s.stack q), _] = _
            rw [map_regAV (ρ := kill (103, 0, 0)) (fun _ => rfl) rfl]; rfl
          rw [ea, eb]
          unfold frC
          rw [hold q e1]
          refine .cons (.imm rfl) (.cons (.imm rfl) (.cons (.imm rfl) (.cons ?_ (.cons (.imm rfl) .nil))))
          unfold Zbg
          rw [hold q e1]
          have hq4 : q < (s.stack ++ [g]).length - 1 := by omega
          have hq5 : mem m { s with stack := s.stack ++ [g] } (945, 0, q) = some (regB ((s.stack ++ [g]).getD q default).regs) := Za0 hq4
          by_cases e2 : q < s.stack.length - 1
          · exact .cc (Zb9 e2) (Zb9 hq4) (.rs hq5 (hs1 q e2) rfl rfl)
          · have : q = s.stack.length - 1 := by omega
            subst this
            exact .cc (Zdc (Nat.le_refl _)) (Zb9 hq4) (.rs hq5 hs2 rfl rfl)
        · have : q = s.stack.length := by omega
          subst this
          have ea : appR s.stack.length (frC s.stack) (fun i => rowOf 5 (frO g (.rs r0 1 0 g.regs.length)) (0 + i)) s.stack.length = frO g (.rs r0 1 0 g.regs.length) := by
            unfold appR; rw [show Nat.blt s.stack.length s.stack.length = false from by rw [Bool.eq_false_iff]; intro h; rw [Nat.blt_eq] at h; omega, Nat.sub_self]; rfl
          rw [ea]
          unfold frC
          rw [hnew]
          refine .cons (.imm rfl) (.cons (.imm rfl) (.cons (.imm rfl) (.cons ?_ (.cons (.imm rfl) .nil))))
          unfold Zbg
          rw [hnew]
          exact .cc rfl (Zdc (by omega)) (.rs rfl rfl rfl rfl)
      · exact HOk.mk rfl rfl (Zd4 _)
      · refine HOk.mk rfl rfl ?_
        rw [htop]; exact Zbs _
      · have hq3 : q < s.stack.length := by have : q < (s.stack ++ [g]).length - 1 := hq2; omega
        show HOk _ _ _ _ (regB ((s.stack ++ [g]).getD q default).regs)
        rw [hold q hq3]
        by_cases e : q < s.stack.length - 1
        · refine HOk.mk (hs1 q e) (b0 := regB (s.stack.getD q default).regs) ?_ (Zbs _)
          refine killH_fam (i := (103, 0, 0)) rfl ?_
          exact Za0 e
        · have : q = s.stack.length - 1 := by omega
          subst this
          exact HOk.mk hs2 rfl (Zbs (topF s).regs)
    · rw [List.mem_singleton.1 hi]; exact ⟨rfl, rfl⟩
end Go.Proofs.Ytoelbgjpmpoolaa
namespace Go.Proofs.Ytoelbgjpmpoolaa
open Go Dv
set_option maxRecDepth 10000
set_option linter.unusedSimpArgs false
theorem with_len {s : Mach} {g : Zaw} (h : 0 < s.stack.length) : (Zbu s g).stack.length = s.stack.length := by simp [Zbu]; omega
theorem with_old {s : Mach} {g : Zaw} {q : Nat} (hq : q < s.stack.length - 1) : (Zbu s g).stack.getD q default = s.stack.getD q default := by
  show (s.stack.take (s.stack.length - 1) ++ [g]).getD q default = _
  rw [Zc6, List.length_take, if_pos (by omega), Zbv _ hq]
theorem with_top {s : Mach} {g : Zaw} (h : 0 < s.stack.length) : (Zbu s g).stack.getD (s.stack.length - 1) default = g := by
  show (s.stack.take (s.stack.length - 1) ++ [g]).getD (s.stack.length - 1) default = g
  rw [Zc6, List.length_take, if_neg (by omega), if_pos (by omega)]
abbrev srcT (E T : Dv.Id) : Dv.Id → Option Dv.Id := srcL [(jE, some E), (jT, some T)]
theorem leaveG {m : Zai} {s s' : Mach} {g : Zaw} {h : Zao} {E T : Dv.Id} {n' : Nat} {F : Nat → List AV} {b0 bE bT : Zam} (hp : 0 < s.stack.length) (hst : s'.stack = (Zbu s g).stack) (hnd : Zcl [E, T] = true)
    (hE : mem m s' E = none ∨ E = jE ∨ E = jT) (hT : mem m s' T = none ∨ T = jE ∨ T = jT) (h1 : h jB = some b0) (hB : GB (srcT E T) h (mem m s') b0 (macB m s')) (h2 : h jF = some (.row false 5 n' F)) (hn : s.stack.length ≤ n') (hF1 : ∀ q, q < s.stack.length - 1 → F q = frC s.stack q)
    (hF2 : F (s.stack.length - 1) = frO g (.rs T 1 0 g.regs.length)) (h3 : h E = some bE) (gE : GB (srcT E T) h (mem m s') bE (evB s'.events)) (h4 : h T = some bT) (gT : GB (srcT E T) h (mem m s') bT (regB g.regs)) (h5 : ∀ q, q < s.stack.length - 1 → h (945, 0, q) = some (regB (s.stack.getD q default).regs)) :
    (∀ j j' i, (mem m s' j).isSome = true → (mem m s' j').isSome = true → srcT E T j = some i → srcT E T j' = some i → j = j') ∧ ∀ j b, mem m s' j = some b → HOk (srcT E T) h (mem m s') j b := by
  have hl : s'.stack.length = s.stack.length := by rw [hst]; exact with_len hp
  have hold : ∀ q, q < s.stack.length - 1 → s'.stack.getD q default = s.stack.getD q default := fun q hq => by rw [hst]; exact with_old hq
  have hnew : s'.stack.getD (s.stack.length - 1) default = g := by rw [hst]; exact with_top hp
  have htop : topF s' = g := by unfold topF; rw [hl]; exact hnew
  refine ⟨Zeu hnd (fun i hi => ?_), fun j b e => ?_⟩
  · rcases List.mem_cons.1 (show i ∈ [E, T] from hi) with rfl | hi
    · rcases hE with h | h | h
      · exact .inl h
      · exact .inr (by rw [h]; simp)
      · exact .inr (by rw [h]; simp)
    · rw [List.mem_singleton.1 hi]
      rcases hT with h | h | h
      · exact .inl h
      · exact .inr (by rw [h]; simp)
      · exact .inr (by rw [h]; simp)
  · rcases Zb4 e with ⟨rfl, rfl⟩ | ⟨rfl, rfl⟩ | ⟨rfl, rfl⟩ | ⟨rfl, rfl⟩ | ⟨q, rfl, hq2, rfl⟩
    · exact HOk.mk rfl h1 hB
    · refine HOk.mk rfl h2 ?_
      refine GB.row (by rw [hl]; exact hn) (fun q hq => ?_) (fun e => by cases e)
      rw [hl] at hq
      by_cases e1 : q < s.stack.length - 1
      · rw [hF1 q e1]
        unfold frC
        rw [hold q e1]
        refine .cons (.imm rfl) (.cons (.imm rfl) (.cons (.imm rfl) (.cons ?_ (.cons (.imm rfl) .nil))))
        unfold Zbg
        rw [hold q e1]
        have hq5 : mem m s' (945, 0, q) = some (regB (s'.stack.getD q default).regs) := Za0 (by rw [hl]; exact e1)
        exact .cc (Zb9 e1) (Zb9 (by rw [hl]; exact e1)) (.rs hq5 rfl rfl rfl)
      · have : q = s.stack.length - 1 := by omega
        subst this
        rw [hF2]
        unfold frC
        rw [hnew]
        refine .cons (.imm rfl) (.cons (.imm rfl) (.cons (.imm rfl) (.cons ?_ (.cons (.imm rfl) .nil))))
        unfold Zbg
        rw [hnew]
        exact .cc rfl (Zdc (by rw [hl]; exact Nat.le_refl _)) (.rs rfl rfl rfl rfl)
    · exact HOk.mk rfl h3 gE
    · refine HOk.mk rfl h4 ?_
      rw [htop]; exact gT
    · rw [hl] at hq2
      rw [hold q hq2]
      exact HOk.mk rfl (h5 q hq2) (Zbs _)
theorem frC_top {l : List Zaw} (h : 0 < l.length) : frC l (l.length - 1) = frO (l.getD (l.length - 1) default) (.rs jT 1 0 (l.getD (l.length - 1) default).regs.length) := by
  unfold frC frO Zbg
  rw [Zdc (Nat.le_refl _)]
theorem keepT {m : Zai} {s' : Mach} {E T : Dv.Id} : ∀ i ∈ [jB, jF], Zeb i = true → (mem m s' i).isSome = true ∧ srcT E T i = some i := fun i hi _ => by
  rcases List.mem_cons.1 hi with rfl | hi
  · exact ⟨rfl, rfl⟩
  · rw [List.mem_singleton.1 hi]; exact ⟨rfl, rfl⟩
theorem stack_top {s : Mach} (h : 0 < s.stack.length) : s.stack = s.stack.take (s.stack.length - 1) ++ [topF s] := by
  have e1 : s.stack.take (s.stack.length - 1 + 1) = s.stack.take (s.stack.length - 1) ++ [s.stack.getD (s.stack.length - 1) default] := by
    rw [List.take_add_one, List.getD_eq_getElem?_getD, List.getElem?_eq_getElem (by omega)]; rfl
  rw [show s.stack.length - 1 + 1 = s.stack.length by omega, List.take_length] at e1
  exact e1
theorem Zc1 {m : Zai} {s : Mach} {g : Zaw} (h : 0 < s.stack.length) : macC m (Zbu s g) = macC m s := by
  unfold macC; rw [with_len h]; rfl
end Go.Proofs.Ytoelbgjpmpoolaa
namespace Go.Proofs.Ytoelbgjpmpoolaa
open Go Dv
set_option maxRecDepth 10000
set_option linter.unusedSimpArgs false
set_option maxHeartbeats 4000000 in
theorem c_mIns8 (m : Zai) (s : Mach) (f : Zaw) (x : Ins) (hf : topF s = f) (h : 0 < s.stack.length) (hl : s.stack.length ≤ 32) (hat0 : 0 ≤ f.at_) (hat : f.at_ < 1000000) (h1 : 1 ≤ x.op) (h8 : x.op ≤ 8) (hd : 0 ≤ x.dst ∧ x.dst < f.regs.length) (ha : 1 < x.op → 0 ≤ x.a ∧ x.a < f.regs.length) (hb' : 2 < x.op → 0 ≤ x.b ∧ x.b < f.regs.length) :
    HG Try.prog [jB, jF] 28 (mem m s) [.bp jB 0, .rp jF 5 (s.stack.length - 1) 0, .agg (Zbi x)] (.bool false) (mem m (insM m s f x)) := by
  refine Za4 tok Try.func28 rfl (by decide +kernel) (Nat.le_of_ble_eq_true rfl) ?_
  have hmx : maxL = 4294967296 := rfl
  have hM : insM m s f x = if (Zdg f x).2 = true then Zbu s (Zdg f x).1 else endM s 3 0 := by
    unfold insM; rw [if_neg (by omega), if_pos h8]
  rw [hM]
  have hR := c_fReckon f x hat0 hat h1 h8 hd ha hb'
  have hle : s.stack.length - 1 < (endM s 3 0).stack.length := by show s.stack.length - 1 < s.stack.length; omega
  have hft : s.stack.getD (s.stack.length - 1) default = f := hf
  (repeat' ((fail_if_success (show AWp _ _ _ (Code.region 8 _ _) _ _)); (fail_if_success (show AWp _ _ _ (Code.region 12 _ _) _ _)); first | refine Zac ?_ | (refine Zab tok (by rfl) ?_; conv => whnf) | refine Zak ?_ | refine Zaf rfl (fun hb => ?_) (fun hb => ?_)))
  · exfalso; simp only [decide_eq_true_eq] at hb; omega
  clear hb
  (repeat' ((fail_if_success (show AWp _ _ _ (Code.region 13 _ _) _ _)); (fail_if_success (show AWp _ _ _ (Code.region 17 _ _) _ _)); first | refine Zac ?_ | (refine Zab tok (by rfl) ?_; conv => whnf) | refine Zaf rfl (fun hb => ?_) (fun hb => ?_)))
  · exfalso; simp only [decide_eq_true_eq] at hb; omega
  clear hb
  (repeat' ((fail_if_success (show AWp _ _ _ (Code.region 18 _ _) _ _)); (fail_if_success (show AWp _ _ _ (Code.region 20 _ _) _ _)); first | refine Zac ?_ | (refine Zab tok (by rfl) ?_; conv => whnf) | refine Zaf rfl (fun hb => ?_) (fun hb => ?_)))
  · exfalso; simp only [decide_eq_true_eq] at hb; omega
  clear hb
  (repeat' ((fail_if_success (show AWp _ _ _ (Code.region 21 _ _) _ _)); (fail_if_success (show AWp _ _ _ (Code.region 22 _ _) _ _)); first | refine Zac ?_ | (refine Zab tok (by rfl) ?_; conv => whnf) | refine Zaf rfl (fun hb => ?_) (fun hb => ?_)))
  · exfalso; simp only [decide_eq_true_eq] at hb; omega
  clear hb
  (repeat' ((fail_if_success (show AWp _ _ _ (Code.region 23 _ _) _ _)); (fail_if_success (show AWp _ _ _ (Code.region 2 _ _) _ _)); first | refine Zac ?_ | (refine Zab tok (by rfl) ?_; conv => whnf) | refine Zaf rfl (fun hb => ?_) (fun hb => ?_)))
  · exfalso; simp only [decide_eq_true_eq] at hb; omega
  clear hb
  have hR' : HF Try.prog 41 [.agg (Zbd (topF s)), .agg (Zbi x)] (.tup [.agg (frO (Zdg f x).1 (.rs r0 1 0 (Zdg f x).1.regs.length)), .bool (Zdg f x).2]) (oneR (Zdg f x).1.regs) := by rw [hf]; exact hR
  refine Zdx tok mix (by rfl) [0, 1, 2, 3] 30 (by rfl) (by rfl) (by rfl) ?_
  conv => whnf
  repeat' first
    | (refine fAV (x := Zbg s.stack (s.stack.length - 1)) (y := .rs jT 1 0 (topF s).regs.length) (Zbe h rfl) ?_; (conv => whnf))
    | (refine @And.intro (Zaa _ _ _ _) _ ?_ ?_; rotate_left; (conv => whnf); rotate_right)
    | (guard_target = And _ _; refine @And.intro (gOp _ _ _ _ _ _ _ _ _) _ (by (conv => whnf); first | exact ⟨rfl, rfl⟩ | (refine fAV (x := Zbg s.stack (s.stack.length - 1)) (y := .rs jT 1 0 (topF s).regs.length) (Zbe h rfl) ?_; (conv => whnf); exact ⟨rfl, rfl⟩)) ?_; conv => whnf)
    | (guard_target = And _ _; refine And.intro ?_ ?_ <;> (conv => whnf))
  all_goals (try ((guard_target = Zaa _ _ _ _); refine Zae ?_; (all_goals (try simp only [Zaa, kzz, kz11, kz12, maxL, Zad] at *)); all_goals omega))
  all_goals (try (show AV.agg [_, _, _, Zbg s.stack (s.stack.length - 1), _] = AV.agg [_, _, _, .rs jT 1 0 (topF s).regs.length, _]; rw [Zbe h rfl]; done))
  all_goals refine .inr ⟨_, _, _, uG (QH.lendF (rd := [jT]) hR' (.cons (.agg (.cons (.imm rfl) (.cons (.imm rfl) (.cons (.imm rfl) (.cons (.row rfl (.head _) rfl rfl (fun _ _ => rfl)) (.cons (.imm rfl) .nil)))))) (.cons (.imm rfl) .nil)) (fun i hi => by rw [Zcz hi]; rfl) rfl (fun j b e => by
    have := Zcz (i := j) (by rw [e]; rfl)
    subst this; cases e; exact fun i hi => rfl)), ?_⟩
  all_goals conv => whnf
  all_goals (repeat' first
    | (refine fAV (x := Zbg s.stack (s.stack.length - 1)) (y := .rs jT 1 0 (topF s).regs.length) (Zbe h rfl) ?_; (conv => whnf))
    | (refine @And.intro (Zaa _ _ _ _) _ ?_ ?_; rotate_left; (conv => whnf); rotate_right)
    | (guard_target = And _ _; refine @And.intro (gOp _ _ _ _ _ _ _ _ _) _ (by (conv => whnf); first | exact ⟨rfl, rfl⟩ | (refine fAV (x := Zbg s.stack (s.stack.length - 1)) (y := .rs jT 1 0 (topF s).regs.length) (Zbe h rfl) ?_; (conv => whnf); exact ⟨rfl, rfl⟩)) ?_; conv => whnf)
    | (guard_target = And _ _; refine And.intro ?_ ?_ <;> (conv => whnf)))
  all_goals (try ((guard_target = Zaa _ _ _ _); refine Zae ?_; (all_goals (try simp only [Zaa, kzz, kz11, kz12, maxL, Zad] at *)); all_goals omega))
  all_goals (try (show AV.agg [_, _, _, Zbg s.stack (s.stack.length - 1), _] = AV.agg [_, _, _, .rs jT 1 0 (topF s).regs.length, _]; rw [Zbe h rfl]; done))
  all_goals
    refine Zau (Weak.fam (L := [jB, jF]) (tl := [(0, .bp jB 0), (1, .rp jF 5 (s.stack.length - 1) 0), (10, .bp (10, 0, 0) 0), (11, .bool (Zdg f x).2)]) (hl := [((10, 0, 0), .row false 5 1 (fun _ => frO (Zdg f x).1 (.rs r0 1 0 (Zdg f x).1.regs.length))), ((905, 0, 0), regB (Zdg f x).1.regs)] ++ memL m s) (F := famW s.stack) [] rfl (fun c hc => by cases hc) ?_ ?_ ?_ (fun i hi _ => ?_)) ?_
    · exact .cons (.bp rfl rfl) (.cons (.rp rfl rfl rfl) (.cons (.bp rfl rfl) (.cons (.imm rfl) .nil)))
    · refine .old rfl rfl (GB.one (.cons (.imm rfl) (.cons (.imm rfl) (.cons (.imm rfl) (.cons (.rs rfl rfl rfl rfl) (.cons (.imm rfl) .nil))))) (fun e => by cases e)) (.old rfl rfl (Zbs _) ?_)
      exact Zck rfl rfl rfl rfl (fun _ => rfl) rfl rfl rfl rfl rfl rfl rfl (fun q hq => Zcg hq)
    · refine Ze9 (fun _ _ => rfl) (fun q hq => ?_)
      refine Zes (d := []) (u := oneR (Zdg f x).1.regs) rfl rfl ?_
      exact Za0 hq
    · rcases List.mem_cons.1 hi with rfl | hi
      · exact ⟨rfl, rfl⟩
      · rw [List.mem_singleton.1 hi]; exact ⟨rfl, rfl⟩
    (repeat' ((fail_if_success (show AWp _ _ _ (Code.region 4 _ _) _ _)); (fail_if_success (show AWp _ _ _ (Code.region 5 _ _) _ _)); first | refine Zac ?_ | (refine Zab tok (by rfl) ?_; conv => whnf) | (refine Zag ?_; conv => whnf) | refine Zaf rfl (fun hb => ?_) (fun hb => ?_)))
    · have hv : ¬ (Zdg f x).2 = true := by simpa using hb
      clear hb
      have hv1 : (Zdg f x).1 = f := by
        unfold Zdg at hv ⊢
        split
        · rename_i h; rw [if_pos h] at hv; exact absurd rfl hv
        · rfl
      rw [if_neg hv]
      (repeat' (refine Zab tok (by rfl) ?_; conv => whnf))
      refine .inr ⟨_, _, _, uG (QH.tnM (by simp) (by simp) (c_mEnd m s 3 0) hl (Zaz rfl rfl rfl rfl (fun _ => rfl)) rfl (fun q hq => Zan hq)), ?_⟩
      conv => whnf
      ((repeat' first | refine Zac ?_ | (refine Zab tok (by rfl) ?_; conv => whnf) | (refine Zaj ?_; conv => whnf) | (refine @And.intro (Zaa _ _ _ _) _ ?_ ?_; rotate_left; (conv => whnf); rotate_right)); all_goals (try ((guard_target = Zaa _ _ _ _); refine Zae ?_; (all_goals (try simp only [Zaa, kzz, kz11, kz12, maxL, Zad] at *)); all_goals omega)))
      refine ⟨_, srcT jE r0, rfl, ?_⟩
      rw [← and_assoc]
      refine ⟨leaveG (s := s) (g := (Zdg f x).1) (n' := s.stack.length) h ?_ rfl (.inr (.inl rfl)) (.inl rfl) rfl (Zd7 (s := endM s 3 0) rfl rfl rfl rfl rfl) rfl (Nat.le_refl _) (fun q hq => ?_) ?_ rfl (Zd4 _) rfl ?_ (fun q hq => ?_), .bool rfl, keepT⟩
      · show s.stack = s.stack.take (s.stack.length - 1) ++ [(Zdg f x).1]
        rw [hv1, ← hf]; exact stack_top h
      · exact Zcu (by omega)
      · exact Zdh
      · exact Zbs _
      · exact Za9 (s := endM s 3 0) hq
    · have hv : (Zdg f x).2 = true := by simpa using hb
      clear hb
      rw [if_pos hv]
      ((repeat' first | refine Zac ?_ | (refine Zab tok (by rfl) ?_; conv => whnf) | (refine Zaj ?_; conv => whnf) | (refine @And.intro (Zaa _ _ _ _) _ ?_ ?_; rotate_left; (conv => whnf); rotate_right)); all_goals (try ((guard_target = Zaa _ _ _ _); refine Zae ?_; (all_goals (try simp only [Zaa, kzz, kz11, kz12, maxL, Zad] at *)); all_goals omega)))
      refine ⟨_, srcT jE r0, rfl, ?_⟩
      rw [← and_assoc]
      refine ⟨leaveG (s := s) (g := (Zdg f x).1) (n' := s.stack.length) h rfl rfl (.inr (.inl rfl)) (.inl rfl) rfl ?_ rfl (Nat.le_refl _) (fun q hq => ?_) ?_ rfl (Zd4 _) rfl (Zbs _) (fun q hq => ?_), .bool rfl, keepT⟩
      · exact Zd7 (s := Zbu s (Zdg f x).1) (Zc1 h).symm rfl rfl rfl rfl
      · exact Zcu (by omega)
      · exact Zdh
      · exact Za0 hq
end Go.Proofs.Ytoelbgjpmpoolaa
namespace Go.Proofs.Ytoelbgjpmpoolaa
open Go Dv
set_option maxRecDepth 10000
set_option linter.unusedSimpArgs false
theorem cells22 {src : Dv.Id → Option Dv.Id} {h h' : Zao} {m : Zai} {s : Mach} {F F' : Dv.Id} (hF : (h' F').isSome = true) (sF : src F' = some F) (hE : (h' jE).isSome = true) (sE : src jE = some jE) : GVs src h h' (macX F m s) (macX F' m s) := by
  cases e1 : h' F' with
  | none => rw [e1] at hF; cases hF
  | some b1 =>
    cases e2 : h' jE with
    | none => rw [e2] at hE; cases hE
    | some b2 =>
      exact (.cons (.rs e1 sF rfl rfl) (.cons (.imm rfl) (.cons (.imm rfl) (.cons (.imm rfl) (.cons (.imm rfl) (.cons (.imm rfl) (.cons (.imm rfl) (.cons (.imm rfl) (.cons (.imm rfl) (.cons (.imm rfl) (.cons (.imm rfl) (.cons (.imm rfl) (.cons (.imm rfl) (.cons (.imm rfl) (.cons (.imm rfl) (.cons (.imm rfl) (.cons (.imm rfl) (.cons (.imm rfl) (.cons (.rs e2 sE rfl rfl) (.cons (.imm rfl) (.cons (.imm rfl) (.cons (.imm rfl) .nil))))))))))))))))))))))
theorem renN {m : Zai} {s s' : Mach} {f : FuncId} {args : List AV} {r : AV} (h : HG Try.prog [jB] f (mem m s) args r (mem m s')) (ha : GVs (srcL [(jF, some jN)]) (memN m s) (mem m s) args args) : HG Try.prog [jB] f (memN m s) args r (mem m s') := by
  refine h.ren (srcL [(jF, some jN)]) (Zeu rfl (fun i hi => ?_)) (fun j b e => ?_) ha (fun i hi _ => by rw [List.mem_singleton.1 hi]; exact ⟨rfl, rfl⟩)
  · rw [List.mem_singleton.1 (show i ∈ [jN] from hi)]; exact .inl rfl
  · rcases Zb4 e with ⟨rfl, rfl⟩ | ⟨rfl, rfl⟩ | ⟨rfl, rfl⟩ | ⟨rfl, rfl⟩ | ⟨q, rfl, hq2, rfl⟩
    · exact HOk.mk rfl rfl (GB.one (cells22 rfl rfl rfl rfl) (fun e => by cases e))
    · exact HOk.mk rfl rfl (GB_fr (fun _ _ => rfl) rfl (fun q hq => by rw [Zdr, Za0 hq]; rfl) rfl)
    · exact HOk.mk rfl rfl (Zd4 _)
    · exact HOk.mk rfl rfl (Zbs _)
    · exact HOk.mk rfl (Za0 (l := s.stack) hq2) (Zbs _)
theorem memN_sub {m : Zai} {s : Mach} {h : Zao} (h1 : h jB = some (.row false 22 1 (fun _ => macX jN m s))) (h2 : h jN = some (Zcx s.stack)) (h3 : h jE = some (evB s.events)) (h4 : h jT = some (regB (topF s).regs)) (h5 : ∀ q, h (945, 0, q) = famW s.stack (945, 0, q)) :
    ∀ j b, memN m s j = some b → h j = some b := fun j b e => by
  rcases memN_some e with ⟨rfl, rfl⟩ | ⟨rfl, rfl⟩ | ⟨rfl, rfl⟩ | ⟨rfl, rfl⟩ | ⟨q, rfl, hq, rfl⟩
  · exact h1
  · exact h2
  · exact h3
  · exact h4
  · rw [h5 q, Za0 hq]
abbrev memNL (m : Zai) (s : Mach) : List (Dv.Id × Zam) := [(jB, .row false 22 1 (fun _ => macX jN m s)), (jN, Zcx s.stack), (jE, evB s.events), (jT, regB (topF s).regs)]
theorem HLs_memN {src : Dv.Id → Option Dv.Id} {m : Zai} {s : Mach} {h h' : Zao} {imm : Bool} {f : Nat → List AV} (sB : src jB = some jB) (sF : src jN = some jF) (sE : src jE = some jE) (sT : src jT = some jT) (sW : ∀ q, src (945, 0, q) = some (945, 0, q)) (h1 : h jB = some (.row imm 22 1 f)) (hf : f 0 = macC m s) (h2 : h jF = some (Zcx s.stack)) (h3 : h jE = some (evB s.events)) (h4 : h jT = some (regB (topF s).regs))
    (k2 : (h' jN).isSome = true) (k3 : (h' jE).isSome = true) (k4 : (h' jT).isSome = true) (k5 : ∀ q, q < s.stack.length - 1 → (h' (945, 0, q)).isSome = true) : HLs src h h' (memNL m s) :=
  .old sB h1 (GB.one (by rw [hf]; exact cells22 (F := jF) k2 sF k3 sE) (fun e => by cases e)) (.old sF h2 (GB_fr (fun q _ => sW q) sT k5 k4) (.old sE h3 (Zd4 _) (.old sT h4 (Zbs _) .nil)))
set_option maxHeartbeats 4000000 in
theorem c_mIns11 (m : Zai) (s : Mach) (x : Ins) (p : Nat) (ho : x.op = 11) (h32 : s.stack.length ≤ 32) (hc : HG Try.prog [jB] 31 (mem m s) [.bp jB 0, iv x.f, ints x.args] (.tup []) (mem m (Zb0 m s x.f x.args))) :
    HG Try.prog [jB] 28 (mem m s) [.bp jB 0, .rp jF 5 p 0, .agg (Zbi x)] (.bool false) (mem m (Zb0 m s x.f x.args)) := by
  refine Za4 tok Try.func28 rfl (by decide +kernel) (Nat.le_of_ble_eq_true rfl) ?_
  have hmx : maxL = 4294967296 := rfl
  have hc' := renN hc (.cons (.bp rfl rfl) (.cons (.imm rfl) (.cons (.imm rfl) .nil)))
  (repeat' ((fail_if_success (show AWp _ _ _ (Code.region 8 _ _) _ _)); (fail_if_success (show AWp _ _ _ (Code.region 12 _ _) _ _)); first | refine Zac ?_ | (refine Zab tok (by rfl) ?_; conv => whnf) | refine Zak ?_ | refine Zaf rfl (fun hb => ?_) (fun hb => ?_)))
  · exfalso; simp only [decide_eq_true_eq] at hb; omega
  clear hb
  (repeat' ((fail_if_success (show AWp _ _ _ (Code.region 13 _ _) _ _)); (fail_if_success (show AWp _ _ _ (Code.region 17 _ _) _ _)); first | refine Zac ?_ | (refine Zab tok (by rfl) ?_; conv => whnf) | refine Zaf rfl (fun hb => ?_) (fun hb => ?_)))
  · exfalso; simp only [decide_eq_true_eq] at hb; omega
  clear hb
  (repeat' ((fail_if_success (show AWp _ _ _ (Code.region 18 _ _) _ _)); (fail_if_success (show AWp _ _ _ (Code.region 20 _ _) _ _)); first | refine Zac ?_ | (refine Zab tok (by rfl) ?_; conv => whnf) | refine Zaf rfl (fun hb => ?_) (fun hb => ?_)))
  · clear hb
    refine Zau (Weak.fam (L := [jB]) (tl := [(0, .bp jB 0), (5, .bp (5, 0, 0) 0)]) (hl := [((5, 0, 0), Za6 (Zbi x))] ++ memNL m s) (F := famW s.stack) [(jN, some jF)] rfl (fun c hc => ?_) ?_ ?_ ?_ (fun i hi _ => by rw [List.mem_singleton.1 hi]; exact ⟨rfl, rfl⟩)) ?_
    · rw [List.mem_singleton.1 (show c ∈ [jF] from hc)]; exact .inl rfl
    · exact .cons (.bp rfl rfl) (.cons (.bp rfl rfl) .nil)
    · refine .old rfl rfl (GB.one (GVs.imm rfl) (fun _ => rfl)) ?_
      exact HLs_memN rfl rfl rfl rfl (fun _ => rfl) rfl rfl rfl rfl rfl rfl rfl rfl (fun q hq => Zcg hq)
    · refine Ze9 (fun _ _ => rfl) (fun q hq => ?_)
      exact Za0 hq
    (repeat' (refine Zab tok (by rfl) ?_; conv => whnf))
    refine .inr ⟨_, _, _, uG (QH.ddM (by simp) hc' h32 (memN_sub rfl rfl rfl rfl (fun _ => rfl)) rfl rfl (fun q hq => Zan hq)), ?_⟩
    conv => whnf
    (repeat' first | refine Zac ?_ | (refine Zab tok (by rfl) ?_; conv => whnf) | (refine Zaj ?_; conv => whnf))
    refine ⟨_, srcL [], rfl, ?_⟩
    rw [← and_assoc]
    refine ⟨Zdd (s := Zb0 m s x.f x.args) rfl rfl rfl (Zce rfl rfl rfl) rfl rfl rfl (fun q hq => Za9 hq), .bool rfl, fun i hi _ => ?_⟩
    rw [List.mem_singleton.1 hi]; exact ⟨rfl, rfl⟩
  · exfalso; simp only [decide_eq_false_iff_not] at hb; omega
end Go.Proofs.Ytoelbgjpmpoolaa
namespace Go.Proofs.Ytoelbgjpmpoolaa
open Go Dv
set_option maxRecDepth 10000
set_option linter.unusedSimpArgs false
set_option maxHeartbeats 4000000 in
theorem c_mIns12 (m : Zai) (s : Mach) (x : Ins) (ho : x.op = 12) (h : 0 < s.stack.length) (ha : 0 ≤ x.a ∧ x.a < (topF s).regs.length) (he : s.events.length < 1000000) :
    HG Try.prog [jB, jF] 28 (mem m s) [.bp jB 0, .rp jF 5 (s.stack.length - 1) 0, .agg (Zbi x)] (.bool true) (mem m (evM s ((topF s).regs.getD x.a.toNat 0))) := by
  refine Za4 tok Try.func28 rfl (by decide +kernel) (Nat.le_of_ble_eq_true rfl) ?_
  have hmx : maxL = 4294967296 := rfl
  (repeat' ((fail_if_success (show AWp _ _ _ (Code.region 8 _ _) _ _)); (fail_if_success (show AWp _ _ _ (Code.region 12 _ _) _ _)); first | refine Zac ?_ | (refine Zab tok (by rfl) ?_; conv => whnf) | refine Zak ?_ | refine Zaf rfl (fun hb => ?_) (fun hb => ?_)))
  · exfalso; simp only [decide_eq_true_eq] at hb; omega
  clear hb
  (repeat' ((fail_if_success (show AWp _ _ _ (Code.region 13 _ _) _ _)); (fail_if_success (show AWp _ _ _ (Code.region 17 _ _) _ _)); first | refine Zac ?_ | (refine Zab tok (by rfl) ?_; conv => whnf) | refine Zaf rfl (fun hb => ?_) (fun hb => ?_)))
  · exfalso; simp only [decide_eq_true_eq] at hb; omega
  clear hb
  (repeat' ((fail_if_success (show AWp _ _ _ (Code.region 18 _ _) _ _)); (fail_if_success (show AWp _ _ _ (Code.region 20 _ _) _ _)); first | refine Zac ?_ | (refine Zab tok (by rfl) ?_; conv => whnf) | refine Zaf rfl (fun hb => ?_) (fun hb => ?_)))
  · exfalso; simp only [decide_eq_true_eq] at hb; omega
  clear hb
  (repeat' ((fail_if_success (show AWp _ _ _ (Code.region 21 _ _) _ _)); (fail_if_success (show AWp _ _ _ (Code.region 22 _ _) _ _)); first | refine Zac ?_ | (refine Zab tok (by rfl) ?_; conv => whnf) | refine Zaf rfl (fun hb => ?_) (fun hb => ?_)))
  · clear hb
    refine Zdx tok mix (by rfl) [0, 1, 2, 3, 4, 5, 6, 7, 8, 9, 10, 11, 12, 13, 17, 18, 19] 30 (by rfl) (by rfl) (by rfl) ?_
    conv => whnf
    all_goals (repeat' first
      | (refine fAV (x := Zbg s.stack (s.stack.length - 1)) (y := .rs jT 1 0 (topF s).regs.length) (Zbe h rfl) ?_; (conv => whnf))
      | (refine @And.intro (Zaa _ _ _ _) _ ?_ ?_; rotate_left; (conv => whnf); rotate_right)
      | (guard_target = And _ _; refine @And.intro (gOp _ _ _ _ _ _ _ _ _) _ (by (conv => whnf); first | exact ⟨rfl, rfl⟩ | (refine fAV (x := Zbg s.stack (s.stack.length - 1)) (y := .rs jT 1 0 (topF s).regs.length) (Zbe h rfl) ?_; (conv => whnf); exact ⟨rfl, rfl⟩)) ?_; conv => whnf)
      | (guard_target = And _ _; refine And.intro ?_ ?_ <;> (conv => whnf)))
    all_goals (try ((guard_target = Zaa _ _ _ _); refine Zae ?_; (first | refine And.intro (srcObl_rs rfl ?_) ?_ | skip); (all_goals (try simp only [Zaa, kzz, kz11, kz12, maxL, Zad] at *)); all_goals omega))
    all_goals (try (show gval none (Zbg s.stack (s.stack.length - 1)) = AV.rs jT 1 0 (topF s).regs.length; rw [Zbe h rfl]; rfl))
    all_goals (try (show gval none (Zbh (kill jE) (Zbg s.stack (s.stack.length - 1))) = AV.rs jT 1 0 (topF s).regs.length; rw [map_regAV (ρ := kill jE) (fun _ => rfl) rfl, Zbe h rfl]; rfl))
    all_goals (try rfl)
    refine Za1 100 (fun hl => ?_)
    have hreg : 0 ≤ (topF s).regs.getD (0 + x.a.toNat) 0 ∧ (topF s).regs.getD (0 + x.a.toNat) 0 ≤ 65535 := hl
    clear hl
    rw [Nat.zero_add] at hreg
    (repeat' first | refine Zac ?_ | (refine Zab tok (by rfl) ?_; conv => whnf) | (refine Zaj ?_; conv => whnf))
    refine ⟨_, srcT (103, 0, 0) jT, rfl, ?_⟩
    rw [← and_assoc]
    refine ⟨leaveG (s := s) (g := topF s) (n' := s.stack.length) (F := frC s.stack) h (stack_top h) rfl (.inl rfl) (.inr (.inr rfl)) rfl (GB.one ?_ (fun e => by cases e)) ?_ (Nat.le_refl _) (fun q hq => rfl) (frC_top h) rfl (GB.rowI (Nat.le_of_eq ?_) (fun z hz => ?_)) rfl (Zbs _) (fun q hq => ?_), .bool rfl, keepT⟩
    · refine (.cons (.rs rfl rfl rfl rfl) (.cons (.imm rfl) (.cons (.imm rfl) (.cons (.imm rfl) (.cons (.imm rfl) (.cons (.imm rfl) (.cons (.imm rfl) (.cons (.imm rfl) (.cons (.imm rfl) (.cons (.imm rfl) (.cons (.imm rfl) (.cons (.imm rfl) (.cons (.imm rfl) (.cons (.imm rfl) (.cons (.imm rfl) (.cons (.imm rfl) (.cons (.imm rfl) (.cons (.imm rfl) (.cons (.rs rfl rfl rfl ?_) (.cons (.imm rfl) (.cons (.imm rfl) (.cons (.imm rfl) .nil))))))))))))))))))))))
      show s.events.length + 1 = (s.events ++ [_]).length
      simp
    · exact (congrArg (Option.map (Dv.mapB (kill jE))) (rfl : some (Zcx s.stack) = some (Zcx s.stack))).trans (by rw [Option.map_some, map_fr (ρ := kill jE) (fun _ => rfl) rfl]; rfl)
    · show (s.events ++ [_]).length = s.events.length + 1
      simp
    · have hz2 : z < s.events.length + 1 := by
        have : z < (s.events ++ [(topF s).regs.getD x.a.toNat 0]).length := hz
        simpa using this
      have e := appI (v := (topF s).regs.getD x.a.toNat 0) (F := fun i => [iv (s.events.getD i 0)]) rfl hz2 (show IntKind.i64.wrap ((topF s).regs.getD (0 + x.a.toNat) 0) = _ by rw [Nat.zero_add]; exact Zal (by omega) (by omega)) (fun i hi => rfl)
      simp only [allB, Zcn, Bool.true_and, Bool.and_true, Bool.and_self, cond_true]
      exact ⟨by rw [show appR s.events.length (fun i => [iv (s.events.getD i 0)]) _ z = _ from e]; rfl, e⟩
    · refine killH_fam (i := jE) rfl ?_
      exact Za0 hq
  · exfalso; simp only [decide_eq_false_iff_not] at hb; omega
end Go.Proofs.Ytoelbgjpmpoolaa
namespace Go.Proofs.Ytoelbgjpmpoolaa
open Go Dv
set_option maxRecDepth 10000
set_option linter.unusedSimpArgs false
theorem frO_W (f : Zaw) (d w : Int) (T : Dv.Id) : frO f (.rs T 1 0 f.regs.length) = frO (frW f d w) (.rs T 1 0 (frW f d w).regs.length) := by
  rw [show (frW f d w).regs.length = f.regs.length by simp [frW]]; rfl
theorem keepE {hl : List (Dv.Id × Zam)} {F : Zao} {E : Dv.Id} (hB : (orH (Zay hl) F jB).isSome = true := by rfl) (hF : (orH (Zay hl) F jF).isSome = true := by rfl) : ∀ i ∈ [jB, jF], Zeb i = true → (orH (Zay hl) F i).isSome = true ∧ srcL [(jE, some E)] i = some i := fun i hi _ => by
  rcases List.mem_cons.1 hi with rfl | hi
  · exact ⟨hB, rfl⟩
  · rw [List.mem_singleton.1 hi]; exact ⟨hF, rfl⟩
set_option maxHeartbeats 4000000 in
theorem c_mIns13a (m : Zai) (s : Mach) (x : Ins) (ho : x.op = 13) (h32 : s.stack.length ≤ 32) (hz : s.inputs.length = 0) :
    HG Try.prog [jB, jF] 28 (mem m s) [.bp jB 0, .rp jF 5 (s.stack.length - 1) 0, .agg (Zbi x)] (.bool false) (mem m (endM s 6 0)) := by
  refine Za4 tok Try.func28 rfl (by decide +kernel) (Nat.le_of_ble_eq_true rfl) ?_
  have hmx : maxL = 4294967296 := rfl
  (repeat' ((fail_if_success (show AWp _ _ _ (Code.region 8 _ _) _ _)); (fail_if_success (show AWp _ _ _ (Code.region 12 _ _) _ _)); first | refine Zac ?_ | (refine Zab tok (by rfl) ?_; conv => whnf) | refine Zak ?_ | refine Zaf rfl (fun hb => ?_) (fun hb => ?_)))
  · exfalso; simp only [decide_eq_true_eq] at hb; omega
  clear hb
  (repeat' ((fail_if_success (show AWp _ _ _ (Code.region 13 _ _) _ _)); (fail_if_success (show AWp _ _ _ (Code.region 17 _ _) _ _)); first | refine Zac ?_ | (refine Zab tok (by rfl) ?_; conv => whnf) | refine Zaf rfl (fun hb => ?_) (fun hb => ?_)))
  · exfalso; simp only [decide_eq_true_eq] at hb; omega
  clear hb
  (repeat' ((fail_if_success (show AWp _ _ _ (Code.region 18 _ _) _ _)); (fail_if_success (show AWp _ _ _ (Code.region 20 _ _) _ _)); first | refine Zac ?_ | (refine Zab tok (by rfl) ?_; conv => whnf) | refine Zaf rfl (fun hb => ?_) (fun hb => ?_)))
  · exfalso; simp only [decide_eq_true_eq] at hb; omega
  clear hb
  (repeat' ((fail_if_success (show AWp _ _ _ (Code.region 21 _ _) _ _)); (fail_if_success (show AWp _ _ _ (Code.region 22 _ _) _ _)); first | refine Zac ?_ | (refine Zab tok (by rfl) ?_; conv => whnf) | refine Zaf rfl (fun hb => ?_) (fun hb => ?_)))
  · exfalso; simp only [decide_eq_true_eq] at hb; omega
  clear hb
  (repeat' ((fail_if_success (show AWp _ _ _ (Code.region 23 _ _) _ _)); (fail_if_success (show AWp _ _ _ (Code.region 2 _ _) _ _)); first | refine Zac ?_ | (refine Zab tok (by rfl) ?_; conv => whnf) | refine Zaf rfl (fun hb => ?_) (fun hb => ?_)))
  · clear hb
    (repeat' ((fail_if_success (show AWp _ _ _ (Code.region 24 _ _) _ _)); (fail_if_success (show AWp _ _ _ (Code.region 26 _ _) _ _)); first | refine Zac ?_ | (refine Zab tok (by rfl) ?_; conv => whnf) | (refine Zag ?_; conv => whnf) | refine Zaf rfl (fun hb => ?_) (fun hb => ?_)))
    · (repeat' (refine Zab tok (by rfl) ?_; conv => whnf))
      refine .inr ⟨_, _, _, uG (QH.tnM (by simp) (by simp) (c_mEnd m s 6 0) h32 (Zaz rfl rfl rfl rfl (fun _ => rfl)) rfl (fun q hq => Zan hq)), ?_⟩
      conv => whnf
      (repeat' first | refine Zac ?_ | (refine Zab tok (by rfl) ?_; conv => whnf) | (refine Zaj ?_; conv => whnf))
      refine ⟨_, srcL [], rfl, ?_⟩
      rw [← and_assoc]
      exact ⟨Zdd (s := endM s 6 0) rfl rfl rfl (Zce rfl rfl rfl) rfl rfl rfl (fun q hq => Za9 hq), .bool rfl, Zcq⟩
    · exfalso; rw [hz] at hb; cases hb
  · exfalso; simp only [decide_eq_false_iff_not] at hb; omega
set_option maxHeartbeats 4000000 in
theorem c_mIns13b (m : Zai) (s : Mach) (x : Ins) (ho : x.op = 13) (h : 0 < s.stack.length) (hz : ¬ s.inputs.length = 0) (hi : s.inputs.length < 1000000) (hd : 0 ≤ x.dst ∧ x.dst < (topF s).regs.length) (he : s.events.length < 1000000) :
    HG Try.prog [jB, jF] 28 (mem m s) [.bp jB 0, .rp jF 5 (s.stack.length - 1) 0, .agg (Zbi x)] (.bool true) (mem m (Zbu (inM s) (frW (topF s) x.dst (s.inputs.getD 0 0)))) := by
  refine Za4 tok Try.func28 rfl (by decide +kernel) (Nat.le_of_ble_eq_true rfl) ?_
  have hmx : maxL = 4294967296 := rfl
  (repeat' ((fail_if_success (show AWp _ _ _ (Code.region 8 _ _) _ _)); (fail_if_success (show AWp _ _ _ (Code.region 12 _ _) _ _)); first | refine Zac ?_ | (refine Zab tok (by rfl) ?_; conv => whnf) | refine Zak ?_ | refine Zaf rfl (fun hb => ?_) (fun hb => ?_)))
  · exfalso; simp only [decide_eq_true_eq] at hb; omega
  clear hb
  (repeat' ((fail_if_success (show AWp _ _ _ (Code.region 13 _ _) _ _)); (fail_if_success (show AWp _ _ _ (Code.region 17 _ _) _ _)); first | refine Zac ?_ | (refine Zab tok (by rfl) ?_; conv => whnf) | refine Zaf rfl (fun hb => ?_) (fun hb => ?_)))
  · exfalso; simp only [decide_eq_true_eq] at hb; omega
  clear hb
  (repeat' ((fail_if_success (show AWp _ _ _ (Code.region 18 _ _) _ _)); (fail_if_success (show AWp _ _ _ (Code.region 20 _ _) _ _)); first | refine Zac ?_ | (refine Zab tok (by rfl) ?_; conv => whnf) | refine Zaf rfl (fun hb => ?_) (fun hb => ?_)))
  · exfalso; simp only [decide_eq_true_eq] at hb; omega
  clear hb
  (repeat' ((fail_if_success (show AWp _ _ _ (Code.region 21 _ _) _ _)); (fail_if_success (show AWp _ _ _ (Code.region 22 _ _) _ _)); first | refine Zac ?_ | (refine Zab tok (by rfl) ?_; conv => whnf) | refine Zaf rfl (fun hb => ?_) (fun hb => ?_)))
  · exfalso; simp only [decide_eq_true_eq] at hb; omega
  clear hb
  (repeat' ((fail_if_success (show AWp _ _ _ (Code.region 23 _ _) _ _)); (fail_if_success (show AWp _ _ _ (Code.region 2 _ _) _ _)); first | refine Zac ?_ | (refine Zab tok (by rfl) ?_; conv => whnf) | refine Zaf rfl (fun hb => ?_) (fun hb => ?_)))
  · clear hb
    (repeat' ((fail_if_success (show AWp _ _ _ (Code.region 24 _ _) _ _)); (fail_if_success (show AWp _ _ _ (Code.region 26 _ _) _ _)); first | refine Zac ?_ | (refine Zab tok (by rfl) ?_; conv => whnf) | (refine Zag ?_; conv => whnf) | refine Zaf rfl (fun hb => ?_) (fun hb => ?_)))
    · exfalso; simp only [decide_eq_true_eq] at hb; omega
    clear hb
    ((repeat' ((fail_if_success (show AWp _ _ _ (Code.region 27 _ _) _ _)); first | refine Zac ?_ | (refine Zab tok (by rfl) ?_; conv => whnf) | (refine @And.intro (Zaa _ _ _ _) _ ?_ ?_; rotate_left; (conv => whnf); rotate_right))); all_goals (try ((guard_target = Zaa _ _ _ _); refine Zae ?_; (all_goals (try simp only [Zaa, kzz, kz11, kz12, maxL, Zad] at *)); all_goals omega)))
    refine Za1 9 (fun hl => ?_)
    have hreg : 0 ≤ s.inputs.getD (Int.toNat 0) 0 ∧ s.inputs.getD (Int.toNat 0) 0 ≤ 65535 := hl
    clear hl
    have hreg : 0 ≤ s.inputs.getD 0 0 ∧ s.inputs.getD 0 0 ≤ 65535 := hreg
    ((repeat' ((fail_if_success (show AWp _ _ _ (Code.region 29 _ _) _ _)); first | refine Zac ?_ | (refine Zab tok (by rfl) ?_; conv => whnf) | (refine @And.intro (Zaa _ _ _ _) _ ?_ ?_; rotate_left; (conv => whnf); rotate_right))); all_goals (try ((guard_target = Zaa _ _ _ _); refine Zae ?_; (first | refine And.intro (srcObl_rs rfl ?_) ?_ | skip); (all_goals (try simp only [Zaa, kzz, kz11, kz12, maxL, Zad] at *)); all_goals omega)))
    refine Zau (Weak.fam (L := [jB, jF]) (tl := [(0, .bp jB 0), (1, .rp jF 5 (s.stack.length - 1) 0), (5, .bp (5, 0, 0) 0), (9, .int .u16 (s.inputs.getD 0 0))]) (hl := [((5, 0, 0), Za6 (Zbi x))] ++ memL m (inM s)) (F := famW s.stack) [(jE, some (145, 0, 0))] rfl (fun c hc => ?_) ?_ ?_ ?_ keepE) ?_
    · rw [List.mem_singleton.1 (show c ∈ [(145, 0, 0)] from hc)]; exact .inl rfl
    · exact .cons (.bp rfl rfl) (.cons (.rp rfl rfl rfl) (.cons (.bp rfl rfl) (.cons (.imm rfl) .nil)))
    · refine .old rfl rfl (GB.one (GVs.imm rfl) (fun _ => rfl)) (.old rfl rfl (GB.one ?_ (fun e => by cases e)) (.old (b0 := Zcx s.stack) rfl ?_ ?_ (.old rfl rfl (GB.rowI (Nat.le_of_eq ?_) (fun z hz => ?_)) (.old rfl rfl (Zbs _) .nil))))
      · refine (.cons (.rs rfl rfl rfl rfl) (.cons (.imm rfl) (.cons (.imm rfl) (.cons (.imm rfl) (.cons (.imm rfl) (.cons (.imm rfl) (.cons (.imm rfl) (.cons (.imm rfl) (.cons (.imm rfl) (.cons (.imm rfl) (.cons (.imm rfl) (.cons (.imm rfl) (.cons (.imm rfl) (.cons (.imm rfl) (.cons (.imm rfl) (.cons (.imm rfl) (.cons (.imm rfl) (.cons (.wk rfl (wk_drop hz ?_ (fun i => rfl))) (.cons (.rs rfl rfl rfl ?_) (.cons (.imm rfl) (.cons (.imm rfl) (.cons (.imm rfl) .nil))))))))))))))))))))))
        · simp
        · show s.events.length + 1 = (s.events ++ [_]).length
          simp
      · exact (congrArg (Option.map (Dv.mapB (kill jE))) (rfl : some (Zcx s.stack) = some (Zcx s.stack))).trans (by rw [Option.map_some, map_fr (ρ := kill jE) (fun _ => rfl) rfl])
      · refine GB_fr (l := s.stack) (fun _ _ => rfl) rfl (fun q hq => ?_) rfl
        exact Zcg hq
      · show (s.events ++ [_]).length = s.events.length + 1
        simp
      · have hz2 : z < s.events.length + 1 := by
          have : z < (s.events ++ [s.inputs.getD 0 0 + 65536]).length := hz
          simpa using this
        have e := appI (v := s.inputs.getD 0 0 + 65536) (F := fun i => [iv (s.events.getD i 0)]) rfl hz2 (show IntKind.i64.wrap (IntKind.i64.wrap (s.inputs.getD (Int.toNat 0) 0) + 65536) = _ by
          show IntKind.i64.wrap (IntKind.i64.wrap (s.inputs.getD 0 0) + 65536) = _
          rw [Zal (x := s.inputs.getD 0 0) (by omega) (by omega), Zal (by omega) (by omega)]) (fun i hi => rfl)
        simp only [allB, Zcn, Bool.true_and, Bool.and_true, Bool.and_self, cond_true]
        exact ⟨by rw [show appR s.events.length (fun i => [iv (s.events.getD i 0)]) _ z = _ from e]; rfl, e⟩
    · refine Ze9 (fun _ _ => rfl) (fun q hq => ?_)
      refine killH_fam (i := jE) rfl ?_
      exact Za0 hq
    have hzz : x.dst.toNat < (topF s).regs.length := by omega
    have hft : (topF (inM s)) = topF s := rfl
    have hle : s.stack.length - 1 < (inM s).stack.length := by show s.stack.length - 1 < s.stack.length; omega
    have hdd : x.dst.toNat < (topF (inM s)).regs.length := hzz
    ((repeat' first | (refine Zap tok mix (by rfl) ?_; conv => whnf) | (refine @And.intro (Zaa _ _ _ _) _ ?_ ?_; rotate_left; (conv => whnf); rotate_right)); all_goals (try ((guard_target = Zaa _ _ _ _); refine Zae ?_; (all_goals (try simp only [Zaa, kzz, kz11, kz12, maxL, Zad] at *)); all_goals omega)))
    refine fAV (x := Zbg s.stack (s.stack.length - 1)) (y := .rs jT 1 0 (topF s).regs.length) (Zbe h rfl) ?_
    conv => whnf
    ((repeat' first | refine Zac ?_ | (refine Zab tok (by rfl) ?_; conv => whnf) | (refine Zaj ?_; conv => whnf) | (refine @And.intro (Zaa _ _ _ _) _ ?_ ?_; rotate_left; (conv => whnf); rotate_right)); all_goals (try ((guard_target = Zaa _ _ _ _); refine Zae ?_; (all_goals (try simp only [Zaa, kzz, kz11, kz12, maxL, Zad] at *)); all_goals omega)))
    refine ⟨_, srcT jE jT, rfl, ?_⟩
    rw [← and_assoc]
    refine ⟨leaveG (s := inM s) (g := frW (topF s) x.dst (s.inputs.getD 0 0)) (n' := s.stack.length) (F := frC s.stack) h rfl rfl (.inr (.inl rfl)) (.inr (.inr rfl)) rfl ?_ rfl (Nat.le_refl _) (fun q hq => rfl) ((frC_top h).trans (frO_W _ _ _ _)) rfl (Zd4 _) rfl (GB.rowI (Nat.le_of_eq (by simp [frW]; rfl)) (fun q hq => ⟨?_, ?_⟩)) (fun q hq => ?_), .bool rfl, keepT⟩
    · exact Zd7 (s := Zbu (inM s) (frW (topF s) x.dst (s.inputs.getD 0 0))) (Zc1 (s := inM s) h).symm rfl rfl rfl rfl
    · rw [Nat.zero_add, rowSet (l := (topF (inM s)).regs) hzz]; rfl
    · rw [Nat.zero_add]; exact rowSet (l := (topF s).regs) hzz
    · exact Za0 hq
  · exfalso; simp only [decide_eq_false_iff_not] at hb; omega
end Go.Proofs.Ytoelbgjpmpoolaa
namespace Go.Proofs.Ytoelbgjpmpoolaa
open Go Dv
set_option maxRecDepth 10000
set_option linter.unusedSimpArgs false
theorem c_mCellN (m : Zai) (s : Mach) (n : Int) (h32 : s.stack.length ≤ 32) (h : 16 ≤ n) : HG Try.prog LW 39 (mem m s) [.bp jB 0, .int .u16 n] .np (mem m (endM s 4 0)) := by
  refine Za4 tok Try.func39 rfl (by decide +kernel) (Nat.le_of_ble_eq_true rfl) ?_
  refine Za1 1 (fun hl => ?_)
  have hreg : 0 ≤ n ∧ n ≤ 65535 := hl
  clear hl
  have hw : IntKind.i64.wrap n = n := Zal (by omega) (by omega)
  (repeat' ((fail_if_success (show AWp _ _ _ (Code.region 2 _ _) _ _)); (fail_if_success (show AWp _ _ _ (Code.region 4 _ _) _ _)); first | refine Zac ?_ | (refine Zab tok (by rfl) ?_; conv => whnf) | (refine Zag ?_; conv => whnf) | refine Zaf rfl (fun hb => ?_) (fun hb => ?_)))
  · (repeat' (refine Zab tok (by rfl) ?_; conv => whnf))
    refine .inr ⟨_, _, _, uG (QH.tnM (by simp) (by simp) (c_mEnd m s 4 0) h32 (Zaz rfl rfl rfl rfl (fun _ => rfl)) rfl (fun q hq => Zan hq)), ?_⟩
    conv => whnf
    (repeat' first | refine Zac ?_ | (refine Zab tok (by rfl) ?_; conv => whnf) | (refine Zaj ?_; conv => whnf))
    refine ⟨_, srcL [], rfl, ?_⟩
    rw [← and_assoc]
    exact ⟨Zdd (s := endM s 4 0) rfl rfl rfl (Zce rfl rfl rfl) rfl rfl rfl (fun q hq => Za9 hq), .imm rfl, Zcq⟩
  · exfalso; rw [hw] at hb; simp only [decide_eq_false_iff_not] at hb; omega
theorem c_mCellY (m : Zai) (s : Mach) (n : Int) (hn : n < 16) : HG Try.prog LW 39 (mem m s) [.bp jB 0, .int .u16 n] (.bp jB (1 + n.toNat)) (mem m s) := by
  refine Za4 tok Try.func39 rfl (by decide +kernel) (Nat.le_of_ble_eq_true rfl) ?_
  refine Za1 1 (fun hl => ?_)
  have hreg : 0 ≤ n ∧ n ≤ 65535 := hl
  clear hl
  have hw : IntKind.i64.wrap n = n := Zal (by omega) (by omega)
  (repeat' ((fail_if_success (show AWp _ _ _ (Code.region 2 _ _) _ _)); (fail_if_success (show AWp _ _ _ (Code.region 4 _ _) _ _)); first | refine Zac ?_ | (refine Zab tok (by rfl) ?_; conv => whnf) | (refine Zag ?_; conv => whnf) | refine Zaf rfl (fun hb => ?_) (fun hb => ?_)))
  · exfalso; rw [hw] at hb; simp only [decide_eq_true_eq] at hb; omega
  clear hb
  ((repeat' first | (refine Zab tok (by rfl) ?_; conv => whnf) | (refine Zaj ?_; conv => whnf) | (refine @And.intro (Zaa _ _ _ _) _ ?_ ?_; rotate_left; (conv => whnf); rotate_right)); all_goals (try ((guard_target = Zaa _ _ _ _); refine Zae ?_; all_goals omega)))
  refine ⟨_, srcL [], rfl, ?_⟩
  rw [← and_assoc]
  refine ⟨Zdd rfl rfl rfl (Zce rfl rfl rfl) rfl rfl rfl (fun q hq => Za0 hq), .cc ?_ rfl (.bp rfl rfl), Zcq⟩
  show AV.bp jB (0 + 0 + 1 + n.toNat * 1) = AV.bp jB (1 + n.toNat)
  rw [Nat.mul_one]
end Go.Proofs.Ytoelbgjpmpoolaa
namespace Go.Proofs.Ytoelbgjpmpoolaa
open Go Dv
set_option maxRecDepth 10000
set_option linter.unusedSimpArgs false
set_option maxHeartbeats 4000000 in
theorem c_mIns9n (m : Zai) (s : Mach) (x : Ins) (ho : x.op = 9) (h : 0 < s.stack.length) (h32 : s.stack.length ≤ 32) (ha : 0 ≤ x.a ∧ x.a < (topF s).regs.length) (h16 : 16 ≤ (topF s).regs.getD x.a.toNat 0) :
    HG Try.prog [jB, jF] 28 (mem m s) [.bp jB 0, .rp jF 5 (s.stack.length - 1) 0, .agg (Zbi x)] (.bool false) (mem m (endM s 4 0)) := by
  refine Za4 tok Try.func28 rfl (by decide +kernel) (Nat.le_of_ble_eq_true rfl) ?_
  have hmx : maxL = 4294967296 := rfl
  have hC : ∀ y, y = (topF s).regs.getD x.a.toNat 0 → HG Try.prog LW 39 (mem m s) [.bp jB 0, .int .u16 y] .np (mem m (endM s 4 0)) := fun y e => by rw [e]; exact c_mCellN m s _ h32 h16
  (repeat' ((fail_if_success (show AWp _ _ _ (Code.region 8 _ _) _ _)); (fail_if_success (show AWp _ _ _ (Code.region 12 _ _) _ _)); first | refine Zac ?_ | (refine Zab tok (by rfl) ?_; conv => whnf) | refine Zak ?_ | refine Zaf rfl (fun hb => ?_) (fun hb => ?_)))
  · clear hb
    ((repeat' first | (refine Zap tok mix (by rfl) ?_; conv => whnf) | (refine @And.intro (Zaa _ _ _ _) _ ?_ ?_; rotate_left; (conv => whnf); rotate_right)); all_goals (try ((guard_target = Zaa _ _ _ _); refine Zae ?_; (all_goals (try simp only [Zaa, kzz, kz11, kz12, maxL, Zad] at *)); all_goals omega)))
    refine fAV (x := Zbg s.stack (s.stack.length - 1)) (y := .rs jT 1 0 (topF s).regs.length) (Zbe h rfl) ?_
    conv => whnf
    ((repeat' (refine @And.intro (Zaa _ _ _ _) _ ?_ ?_; rotate_left; (conv => whnf); rotate_right)); all_goals (try ((guard_target = Zaa _ _ _ _); refine Zae ?_; (all_goals (try simp only [Zaa, kzz, kz11, kz12, maxL, Zad] at *)); all_goals omega)))
    refine .inr ⟨_, _, _, uG (QH.tnM (by simp) (by simp) (hC _ (by rw [Nat.zero_add])) h32 (Zaz rfl rfl rfl rfl (fun _ => rfl)) rfl (fun q hq => Zan hq)), ?_⟩
    conv => whnf
    (repeat' ((fail_if_success (show AWp _ _ _ (Code.region 9 _ _) _ _)); refine Zac ?_))
    refine AWp_hand tok [_] _ [] rfl (by rfl) (by rfl) rfl ?_
    conv => whnf
    intro X ι a w s0
    refine ⟨⟨.bool true, .none, []⟩, ptrNil_ok s0 rfl Try.underlying85 rfl (.inl ⟨rfl, rfl⟩), rfl, ?_⟩
    conv => whnf
    (repeat' ((fail_if_success (show AWp _ _ _ (Code.region 10 _ _) _ _)); (fail_if_success (show AWp _ _ _ (Code.region 11 _ _) _ _)); first | refine Zac ?_ | (refine Zag ?_; conv => whnf) | refine Zaf rfl (fun hb => ?_) (fun hb => ?_)))
    all_goals (try (exfalso; cases hb; done))
    clear hb
    (repeat' first | (refine Zab tok (by rfl) ?_; conv => whnf) | (refine Zaj ?_; conv => whnf))
    refine ⟨_, srcL [], rfl, ?_⟩
    rw [← and_assoc]
    exact ⟨Zdd (s := endM s 4 0) rfl rfl rfl (Zce rfl rfl rfl) rfl rfl rfl (fun q hq => Za9 hq), .bool rfl, Zcq⟩
  · exfalso; simp only [decide_eq_false_iff_not] at hb; omega
end Go.Proofs.Ytoelbgjpmpoolaa
namespace Go.Proofs.Ytoelbgjpmpoolaa
open Go Dv
set_option maxRecDepth 10000
set_option linter.unusedSimpArgs false
set_option maxHeartbeats 4000000 in
theorem c_mIns9y (m : Zai) (s : Mach) (x : Ins) (k : Nat) (ho : x.op = 9) (h : 0 < s.stack.length) (h32 : s.stack.length ≤ 32) (ha : 0 ≤ x.a ∧ x.a < (topF s).regs.length) (hd : 0 ≤ x.dst ∧ x.dst < (topF s).regs.length) (hv : (topF s).regs.getD x.a.toNat 0 < 16) (hk : ((topF s).regs.getD x.a.toNat 0).toNat = k) :
    HG Try.prog [jB, jF] 28 (mem m s) [.bp jB 0, .rp jF 5 (s.stack.length - 1) 0, .agg (Zbi x)] (.bool true) (mem m (Zbu s (frW (topF s) x.dst (s.cells.getD k 0)))) := by
  refine Za4 tok Try.func28 rfl (by decide +kernel) (Nat.le_of_ble_eq_true rfl) ?_
  have hmx : maxL = 4294967296 := rfl
  have hC : ∀ y, y = (topF s).regs.getD x.a.toNat 0 → HG Try.prog LW 39 (mem m s) [.bp jB 0, .int .u16 y] (.bp jB (1 + k)) (mem m s) := fun y e => by rw [e, ← hk]; exact c_mCellY m s _ hv
  (repeat' ((fail_if_success (show AWp _ _ _ (Code.region 8 _ _) _ _)); (fail_if_success (show AWp _ _ _ (Code.region 12 _ _) _ _)); first | refine Zac ?_ | (refine Zab tok (by rfl) ?_; conv => whnf) | refine Zak ?_ | refine Zaf rfl (fun hb => ?_) (fun hb => ?_)))
  · clear hb
    ((repeat' first | (refine Zap tok mix (by rfl) ?_; conv => whnf) | (refine @And.intro (Zaa _ _ _ _) _ ?_ ?_; rotate_left; (conv => whnf); rotate_right)); all_goals (try ((guard_target = Zaa _ _ _ _); refine Zae ?_; (all_goals (try simp only [Zaa, kzz, kz11, kz12, maxL, Zad] at *)); all_goals omega)))
    refine fAV (x := Zbg s.stack (s.stack.length - 1)) (y := .rs jT 1 0 (topF s).regs.length) (Zbe h rfl) ?_
    conv => whnf
    ((repeat' (refine @And.intro (Zaa _ _ _ _) _ ?_ ?_; rotate_left; (conv => whnf); rotate_right)); all_goals (try ((guard_target = Zaa _ _ _ _); refine Zae ?_; (all_goals (try simp only [Zaa, kzz, kz11, kz12, maxL, Zad] at *)); all_goals omega)))
    refine .inr ⟨_, _, _, uG (QH.tnM (by simp) (by simp) (hC _ (by rw [Nat.zero_add])) h32 (Zaz rfl rfl rfl rfl (fun _ => rfl)) rfl (fun q hq => Zan hq)), ?_⟩
    conv => whnf
    (repeat' ((fail_if_success (show AWp _ _ _ (Code.region 9 _ _) _ _)); refine Zac ?_))
    refine AWp_hand tok [_] _ [] rfl (by rfl) (by rfl) rfl ?_
    conv => whnf
    intro X ι a w s0
    refine ⟨⟨.bool false, .none, []⟩, ptrNil_ok s0 rfl Try.underlying85 rfl (.inr ⟨⟨_, _, rfl⟩, rfl⟩), rfl, ?_⟩
    conv => whnf
    (repeat' ((fail_if_success (show AWp _ _ _ (Code.region 10 _ _) _ _)); (fail_if_success (show AWp _ _ _ (Code.region 11 _ _) _ _)); first | refine Zac ?_ | (refine Zag ?_; conv => whnf) | refine Zaf rfl (fun hb => ?_) (fun hb => ?_)))
    all_goals (try (exfalso; cases hb; done))
    clear hb
    have hzz : x.dst.toNat < (topF s).regs.length := by omega
    have hk16 : k = 0 ∨ k = 1 ∨ k = 2 ∨ k = 3 ∨ k = 4 ∨ k = 5 ∨ k = 6 ∨ k = 7 ∨ k = 8 ∨ k = 9 ∨ k = 10 ∨ k = 11 ∨ k = 12 ∨ k = 13 ∨ k = 14 ∨ k = 15 := by omega
    clear hC hk
    rcases hk16 with rfl | rfl | rfl | rfl | rfl | rfl | rfl | rfl | rfl | rfl | rfl | rfl | rfl | rfl | rfl | rfl
    all_goals
      ((repeat' first | (refine Zap tok mix (by rfl) ?_; conv => whnf) | (refine @And.intro (Zaa _ _ _ _) _ ?_ ?_; rotate_left; (conv => whnf); rotate_right)); all_goals (try ((guard_target = Zaa _ _ _ _); refine Zae ?_; (all_goals (try simp only [Zaa, kzz, kz11, kz12, maxL, Zad] at *)); all_goals omega)))
      refine fAV (x := Zbg s.stack (s.stack.length - 1)) (y := .rs jT 1 0 (topF s).regs.length) (Zbe h rfl) ?_
      conv => whnf
      ((repeat' first | refine Zac ?_ | (refine Zab tok (by rfl) ?_; conv => whnf) | (refine Zaj ?_; conv => whnf) | (refine @And.intro (Zaa _ _ _ _) _ ?_ ?_; rotate_left; (conv => whnf); rotate_right)); all_goals (try ((guard_target = Zaa _ _ _ _); refine Zae ?_; (all_goals (try simp only [Zaa, kzz, kz11, kz12, maxL, Zad] at *)); all_goals omega)))
      refine ⟨_, srcT jE jT, rfl, ?_⟩
      rw [← and_assoc]
      refine ⟨leaveG (s := s) (g := frW (topF s) x.dst (s.cells.getD _ 0)) (n' := s.stack.length) (F := frC s.stack) h rfl rfl (.inr (.inl rfl)) (.inr (.inr rfl)) rfl ?_ rfl (Nat.le_refl _) (fun q hq => rfl) ((frC_top h).trans (frO_W _ _ _ _)) rfl (Zd4 _) rfl (GB.rowI (Nat.le_of_eq (by simp [frW])) (fun q hq => ⟨?_, ?_⟩)) (fun q hq => ?_), .bool rfl, keepT⟩
      · exact Zd7 (s := Zbu s (frW (topF s) x.dst (s.cells.getD _ 0))) (Zc1 (s := s) h).symm rfl rfl rfl rfl
      · rw [Nat.zero_add, rowSet (l := (topF s).regs) hzz]; rfl
      · rw [Nat.zero_add]; exact rowSet (l := (topF s).regs) hzz
      · exact Za9 hq
  · exfalso; simp only [decide_eq_false_iff_not] at hb; omega
end Go.Proofs.Ytoelbgjpmpoolaa
namespace Go.Proofs.Ytoelbgjpmpoolaa
open Go Dv
set_option maxRecDepth 10000
set_option linter.unusedSimpArgs false
set_option maxHeartbeats 4000000 in
theorem c_mIns10n (m : Zai) (s : Mach) (x : Ins) (ho : x.op = 10) (h : 0 < s.stack.length) (h32 : s.stack.length ≤ 32) (ha : 0 ≤ x.a ∧ x.a < (topF s).regs.length) (h16 : 16 ≤ (topF s).regs.getD x.a.toNat 0) :
    HG Try.prog [jB, jF] 28 (mem m s) [.bp jB 0, .rp jF 5 (s.stack.length - 1) 0, .agg (Zbi x)] (.bool false) (mem m (endM s 4 0)) := by
  refine Za4 tok Try.func28 rfl (by decide +kernel) (Nat.le_of_ble_eq_true rfl) ?_
  have hmx : maxL = 4294967296 := rfl
  have hC : ∀ y, y = (topF s).regs.getD x.a.toNat 0 → HG Try.prog LW 39 (mem m s) [.bp jB 0, .int .u16 y] .np (mem m (endM s 4 0)) := fun y e => by rw [e]; exact c_mCellN m s _ h32 h16
  (repeat' ((fail_if_success (show AWp _ _ _ (Code.region 8 _ _) _ _)); (fail_if_success (show AWp _ _ _ (Code.region 12 _ _) _ _)); first | refine Zac ?_ | (refine Zab tok (by rfl) ?_; conv => whnf) | refine Zak ?_ | refine Zaf rfl (fun hb => ?_) (fun hb => ?_)))
  · exfalso; simp only [decide_eq_true_eq] at hb; omega
  clear hb
  (repeat' ((fail_if_success (show AWp _ _ _ (Code.region 13 _ _) _ _)); (fail_if_success (show AWp _ _ _ (Code.region 17 _ _) _ _)); first | refine Zac ?_ | (refine Zab tok (by rfl) ?_; conv => whnf) | refine Zaf rfl (fun hb => ?_) (fun hb => ?_)))
  · clear hb
    ((repeat' first | (refine Zap tok mix (by rfl) ?_; conv => whnf) | (refine @And.intro (Zaa _ _ _ _) _ ?_ ?_; rotate_left; (conv => whnf); rotate_right)); all_goals (try ((guard_target = Zaa _ _ _ _); refine Zae ?_; (all_goals (try simp only [Zaa, kzz, kz11, kz12, maxL, Zad] at *)); all_goals omega)))
    refine fAV (x := Zbg s.stack (s.stack.length - 1)) (y := .rs jT 1 0 (topF s).regs.length) (Zbe h rfl) ?_
    conv => whnf
    ((repeat' (refine @And.intro (Zaa _ _ _ _) _ ?_ ?_; rotate_left; (conv => whnf); rotate_right)); all_goals (try ((guard_target = Zaa _ _ _ _); refine Zae ?_; (all_goals (try simp only [Zaa, kzz, kz11, kz12, maxL, Zad] at *)); all_goals omega)))
    refine .inr ⟨_, _, _, uG (QH.tnM (by simp) (by simp) (hC _ (by rw [Nat.zero_add])) h32 (Zaz rfl rfl rfl rfl (fun _ => rfl)) rfl (fun q hq => Zan hq)), ?_⟩
    conv => whnf
    (repeat' ((fail_if_success (show AWp _ _ _ (Code.region 14 _ _) _ _)); refine Zac ?_))
    refine AWp_hand tok [_] _ [] rfl (by rfl) (by rfl) rfl ?_
    conv => whnf
    intro X ι a w s0
    refine ⟨⟨.bool true, .none, []⟩, ptrNil_ok s0 rfl Try.underlying85 rfl (.inl ⟨rfl, rfl⟩), rfl, ?_⟩
    conv => whnf
    (repeat' ((fail_if_success (show AWp _ _ _ (Code.region 15 _ _) _ _)); (fail_if_success (show AWp _ _ _ (Code.region 16 _ _) _ _)); first | refine Zac ?_ | (refine Zag ?_; conv => whnf) | refine Zaf rfl (fun hb => ?_) (fun hb => ?_)))
    all_goals (try (exfalso; cases hb; done))
    clear hb
    (repeat' first | (refine Zab tok (by rfl) ?_; conv => whnf) | (refine Zaj ?_; conv => whnf))
    refine ⟨_, srcL [], rfl, ?_⟩
    rw [← and_assoc]
    exact ⟨Zdd (s := endM s 4 0) rfl rfl rfl (Zce rfl rfl rfl) rfl rfl rfl (fun q hq => Za9 hq), .bool rfl, Zcq⟩
  · exfalso; simp only [decide_eq_false_iff_not] at hb; omega
set_option maxHeartbeats 4000000 in
theorem c_mIns10y (m : Zai) (s : Mach) (x : Ins) (k : Nat) (ho : x.op = 10) (h : 0 < s.stack.length) (h32 : s.stack.length ≤ 32) (ha : 0 ≤ x.a ∧ x.a < (topF s).regs.length) (hd : 0 ≤ x.b ∧ x.b < (topF s).regs.length) (hcl : s.cells.length = 16) (hv : (topF s).regs.getD x.a.toNat 0 < 16) (hk : ((topF s).regs.getD x.a.toNat 0).toNat = k) :
    HG Try.prog [jB, jF] 28 (mem m s) [.bp jB 0, .rp jF 5 (s.stack.length - 1) 0, .agg (Zbi x)] (.bool true) (mem m (stM s k ((topF s).regs.getD x.b.toNat 0))) := by
  refine Za4 tok Try.func28 rfl (by decide +kernel) (Nat.le_of_ble_eq_true rfl) ?_
  have hmx : maxL = 4294967296 := rfl
  have hC : ∀ y, y = (topF s).regs.getD x.a.toNat 0 → HG Try.prog LW 39 (mem m s) [.bp jB 0, .int .u16 y] (.bp jB (1 + k)) (mem m s) := fun y e => by rw [e, ← hk]; exact c_mCellY m s _ hv
  (repeat' ((fail_if_success (show AWp _ _ _ (Code.region 8 _ _) _ _)); (fail_if_success (show AWp _ _ _ (Code.region 12 _ _) _ _)); first | refine Zac ?_ | (refine Zab tok (by rfl) ?_; conv => whnf) | refine Zak ?_ | refine Zaf rfl (fun hb => ?_) (fun hb => ?_)))
  · exfalso; simp only [decide_eq_true_eq] at hb; omega
  clear hb
  (repeat' ((fail_if_success (show AWp _ _ _ (Code.region 13 _ _) _ _)); (fail_if_success (show AWp _ _ _ (Code.region 17 _ _) _ _)); first | refine Zac ?_ | (refine Zab tok (by rfl) ?_; conv => whnf) | refine Zaf rfl (fun hb => ?_) (fun hb => ?_)))
  · clear hb
    ((repeat' first | (refine Zap tok mix (by rfl) ?_; conv => whnf) | (refine @And.intro (Zaa _ _ _ _) _ ?_ ?_; rotate_left; (conv => whnf); rotate_right)); all_goals (try ((guard_target = Zaa _ _ _ _); refine Zae ?_; (all_goals (try simp only [Zaa, kzz, kz11, kz12, maxL, Zad] at *)); all_goals omega)))
    refine fAV (x := Zbg s.stack (s.stack.length - 1)) (y := .rs jT 1 0 (topF s).regs.length) (Zbe h rfl) ?_
    conv => whnf
    ((repeat' (refine @And.intro (Zaa _ _ _ _) _ ?_ ?_; rotate_left; (conv => whnf); rotate_right)); all_goals (try ((guard_target = Zaa _ _ _ _); refine Zae ?_; (all_goals (try simp only [Zaa, kzz, kz11, kz12, maxL, Zad] at *)); all_goals omega)))
    refine .inr ⟨_, _, _, uG (QH.tnM (by simp) (by simp) (hC _ (by rw [Nat.zero_add])) h32 (Zaz rfl rfl rfl rfl (fun _ => rfl)) rfl (fun q hq => Zan hq)), ?_⟩
    conv => whnf
    (repeat' ((fail_if_success (show AWp _ _ _ (Code.region 14 _ _) _ _)); refine Zac ?_))
    refine AWp_hand tok [_] _ [] rfl (by rfl) (by rfl) rfl ?_
    conv => whnf
    intro X ι a w s0
    refine ⟨⟨.bool false, .none, []⟩, ptrNil_ok s0 rfl Try.underlying85 rfl (.inr ⟨⟨_, _, rfl⟩, rfl⟩), rfl, ?_⟩
    conv => whnf
    (repeat' ((fail_if_success (show AWp _ _ _ (Code.region 15 _ _) _ _)); (fail_if_success (show AWp _ _ _ (Code.region 16 _ _) _ _)); first | refine Zac ?_ | (refine Zag ?_; conv => whnf) | refine Zaf rfl (fun hb => ?_) (fun hb => ?_)))
    all_goals (try (exfalso; cases hb; done))
    clear hb
    have hzz : x.b.toNat < (topF s).regs.length := by omega
    have hk16 : k = 0 ∨ k = 1 ∨ k = 2 ∨ k = 3 ∨ k = 4 ∨ k = 5 ∨ k = 6 ∨ k = 7 ∨ k = 8 ∨ k = 9 ∨ k = 10 ∨ k = 11 ∨ k = 12 ∨ k = 13 ∨ k = 14 ∨ k = 15 := by omega
    clear hC hk
    rcases hk16 with rfl | rfl | rfl | rfl | rfl | rfl | rfl | rfl | rfl | rfl | rfl | rfl | rfl | rfl | rfl | rfl
    all_goals
      ((repeat' first | (refine Zap tok mix (by rfl) ?_; conv => whnf) | (refine @And.intro (Zaa _ _ _ _) _ ?_ ?_; rotate_left; (conv => whnf); rotate_right)); all_goals (try ((guard_target = Zaa _ _ _ _); refine Zae ?_; (all_goals (try simp only [Zaa, kzz, kz11, kz12, maxL, Zad] at *)); all_goals omega)))
      refine fAV (x := Zbg s.stack (s.stack.length - 1)) (y := .rs jT 1 0 (topF s).regs.length) (Zbe h rfl) ?_
      conv => whnf
      ((repeat' first | refine Zac ?_ | (refine Zab tok (by rfl) ?_; conv => whnf) | (refine Zaj ?_; conv => whnf) | (refine @And.intro (Zaa _ _ _ _) _ ?_ ?_; rotate_left; (conv => whnf); rotate_right)); all_goals (try ((guard_target = Zaa _ _ _ _); refine Zae ?_; (all_goals (try simp only [Zaa, kzz, kz11, kz12, maxL, Zad] at *)); all_goals omega)))
      refine ⟨_, srcL [], rfl, ?_⟩
      rw [← and_assoc]
      refine ⟨Zdd (s := stM s _ ((topF s).regs.getD x.b.toNat 0)) rfl rfl rfl (GB.one ?_ (fun e => by cases e)) rfl rfl rfl (fun q hq => Za9 hq), .bool rfl, Zcq⟩
      show GVs _ _ _ _ (macC m (stM s _ ((topF s).regs.getD x.b.toNat 0)))
      refine .cons (.rs rfl rfl rfl rfl) ?_
      repeat' first | refine GVs.cons (.wk rfl (wkc (by decide))) ?_ | refine GVs.cons (.wk rfl (by rw [Nat.zero_add]; exact wks (by omega))) ?_ | refine GVs.cons (.imm rfl) ?_ | refine GVs.cons (.rs rfl rfl rfl rfl) ?_ | exact .nil
  · exfalso; simp only [decide_eq_false_iff_not] at hb; omega
end Go.Proofs.Ytoelbgjpmpoolaa
namespace Go.Proofs.Ytoelbgjpmpoolaa
open Go Dv
set_option maxRecDepth 10000
set_option linter.unusedSimpArgs false
theorem LW_keepL {tl : List (Dv.Id × Zam)} {F : Zao} (hB : (orH (Zay tl) F jB).isSome = true := by rfl) (hF : (orH (Zay tl) F jF).isSome = true := by rfl) : ∀ i ∈ LW, Zeb i = true → (orH (Zay tl) F i).isSome = true ∧ srcL [] i = some i := fun i hi _ => by
  rcases List.mem_cons.1 hi with rfl | hi
  · exact ⟨hB, rfl⟩
  · rw [List.mem_singleton.1 hi]; exact ⟨hF, rfl⟩
theorem big_far {m : Zai} {p : Mach} {h : Zao} {q : Nat} (hp : p.stack.length ≤ 32) (hq : 32 ≤ q) (hh : h (945, 0, q) = none) : bigH dK (mem m p) h (945, 0, q) = none := by
  unfold bigH
  rw [Zdr, Zan (by omega), hh]
  cases memI (945, 0, q) dK <;> rfl
theorem Zbn {m : Zai} {p : Mach} {h : Zao} {q : Nat} (hh : 32 ≤ q → h (945, 0, q) = none) : bigH dK (mem m p) h (945, 0, q) = famW p.stack (945, 0, q) := by
  unfold bigH
  rw [Zdr]
  cases e : famW p.stack (945, 0, q) with
  | some b => rfl
  | none =>
    by_cases hq : q < 32
    · rw [show memI (945, 0, q) dK = true from Zb7.2 (List.mem_cons_of_mem _ (List.mem_cons_of_mem _ (Zf0.2 ⟨q, hq, rfl⟩)))]; rfl
    · rw [hh (by omega)]; cases memI (945, 0, q) dK <;> rfl
set_option maxHeartbeats 4000000 in
theorem c_mAns1 (m : Zai) (s : Mach) (w : Int) (h1 : s.stack.length = 1) :
    HG Try.prog LW 29 (mem m s) [.bp jB 0, .int .u16 w] (.tup []) (mem m (endM (popM s) 1 w)) := by
  refine Za4 tok Try.func29 rfl (by decide +kernel) (Nat.le_of_ble_eq_true rfl) ?_
  have hmx : maxL = 4294967296 := rfl
  have hpl := Zcr (s := s)
  (repeat' ((fail_if_success (show AWp _ _ _ (Code.region 1 _ _) _ _)); first | refine Zac ?_ | (refine Zab tok (by rfl) ?_; conv => whnf)))
  refine .inr ⟨_, _, _, uG (QH.tnM (by simp) (by simp) (c_mPop m s (by omega) (by omega)) (by omega) (Zaz rfl rfl rfl rfl (fun _ => rfl)) rfl (fun q hq => Zan hq)), ?_⟩
  conv => whnf
  (repeat' ((fail_if_success (show AWp _ _ _ (Code.region 2 _ _) _ _)); (fail_if_success (show AWp _ _ _ (Code.region 3 _ _) _ _)); first | refine Zac ?_ | (refine Zab tok (by rfl) ?_; conv => whnf) | (refine Zag ?_; conv => whnf) | refine Zaf rfl (fun hb => ?_) (fun hb => ?_)))
  · (repeat' (refine Zab tok (by rfl) ?_; conv => whnf))
    refine .inr ⟨_, _, _, uG (QH.tnM (by simp) (by simp) (c_mEnd m (popM s) 1 w) (by omega) (Zaz rfl rfl rfl rfl (fun q => Zbn (fun hq => Zan (by omega)))) rfl (fun q hq => (Zbn (fun hq => Zan (by omega))).trans (Zan hq))), ?_⟩
    conv => whnf
    (repeat' (refine Zaj ?_; conv => whnf))
    refine ⟨_, srcL [], rfl, ?_⟩
    rw [← and_assoc]
    exact ⟨Zdd (s := endM (popM s) 1 w) rfl rfl rfl (Zce rfl rfl rfl) rfl rfl rfl (fun q hq => Za9 hq), .tup .nil, Zcq⟩
  · exfalso; rw [hpl, h1] at hb; cases hb
set_option maxHeartbeats 4000000 in
theorem c_mAns2 (m : Zai) (s p : Mach) (f : Zaw) (w d : Int) (hp : popM s = p) (hf : topF p = f) (h2 : 1 < s.stack.length) (h32 : s.stack.length ≤ 32) (hF : OkF m f) (hn : endB m f = false) (hdd : ((Zas m f).ins.getD f.at_.toNat default).dst = d) (hd : 0 ≤ d ∧ d < f.regs.length) (hat : f.at_ < 1000000) :
    HG Try.prog LW 29 (mem m s) [.bp jB 0, .int .u16 w] (.tup []) (mem m (Zbu p { frW f d w with at_ := f.at_ + 1 })) := by
  refine Za4 tok Try.func29 rfl (by decide +kernel) (Nat.le_of_ble_eq_true rfl) ?_
  have hmx : maxL = 4294967296 := rfl
  have hpl : p.stack.length = s.stack.length - 1 := by rw [← hp]; exact Zcr
  have hP := c_mPop m s (by omega) (by omega)
  rw [hp] at hP
  have hft : p.stack.getD (p.stack.length - 1) default = f := hf
  have hB : HG Try.prog LW 27 (mem m p) [.bp jB 0, .rp jF 5 (p.stack.length - 1) 0] (.agg (Zbl (Zas m f))) (mem m p) := by
    have := Zc7 m p (p.stack.length - 1) (by omega) (by rw [hft]; exact hF)
    rw [hft] at this; exact this
  have hE : ¬ f.at_ = (Zas m f).ins.length := fun e => by
    have : endB m f = true := decide_eq_true e
    rw [hn] at this; cases this
  have hgen : ∃ b, Zas m f = b := ⟨_, rfl⟩
  obtain ⟨b, hbe⟩ := hgen
  have a0 := hF.a0
  have a1 := hF.a1
  rw [hbe] at hB hE hdd a1
  have hp0 : 0 < p.stack.length := by omega
  (repeat' ((fail_if_success (show AWp _ _ _ (Code.region 1 _ _) _ _)); first | refine Zac ?_ | (refine Zab tok (by rfl) ?_; conv => whnf)))
  refine .inr ⟨_, _, _, uG (QH.tnM (by simp) (by simp) hP (by omega) (Zaz rfl rfl rfl rfl (fun _ => rfl)) rfl (fun q hq => Zan hq)), ?_⟩
  conv => whnf
  (repeat' ((fail_if_success (show AWp _ _ _ (Code.region 2 _ _) _ _)); (fail_if_success (show AWp _ _ _ (Code.region 3 _ _) _ _)); first | refine Zac ?_ | (refine Zab tok (by rfl) ?_; conv => whnf) | (refine Zag ?_; conv => whnf) | refine Zaf rfl (fun hb => ?_) (fun hb => ?_)))
  · exfalso; simp only [decide_eq_true_eq] at hb; omega
  clear hb
  (repeat' ((fail_if_success (show AWp _ _ _ (Code.region 4 _ _) _ _)); (refine Zab tok (by rfl) ?_; conv => whnf)))
  refine .inr ⟨_, _, _, uG (QH.tnM (by simp) (by simp) (Zfe m p hp0 (by omega)) (by omega) (Zaz rfl rfl rfl rfl (fun q => Zbn (fun hq => Zan (by omega)))) rfl (fun q hq => (Zbn (fun hq => Zan (by omega))).trans (Zan hq))), ?_⟩
  conv => whnf
  (repeat' ((fail_if_success (show AWp _ _ _ (Code.region 5 _ _) _ _)); first | refine Zac ?_ | (refine Zab tok (by rfl) ?_; conv => whnf)))
  refine .inr ⟨_, _, _, uG (QH.tnM (by simp) (by simp) hB (by omega) (Zaz rfl rfl rfl rfl (fun q => Zbn (fun hq => big_far (by omega) hq (Zan (by omega))))) rfl (fun q hq => (Zbn (fun hq => big_far (by omega) hq (Zan (by omega)))).trans (Zan hq))), ?_⟩
  conv => whnf
  ((repeat' ((fail_if_success (show AWp _ _ _ (Code.region 6 _ _) _ _)); (fail_if_success (show AWp _ _ _ (Code.region 8 _ _) _ _)); first | refine Zac ?_ | (refine Zap tok mix (by rfl) ?_; conv => whnf) | (refine Zag ?_; conv => whnf) | refine Zaf rfl (fun hb => ?_) (fun hb => ?_) | (refine @And.intro (Zaa _ _ _ _) _ ?_ ?_; rotate_left; (conv => whnf); rotate_right))); all_goals (try ((guard_target = Zaa _ _ _ _); refine Zae ?_; (all_goals (try simp only [Zaa, kzz, kz11, kz12, maxL, Zad] at *)); all_goals omega)))
  · clear hb
    refine Zau (Weak.fam (L := LW) (tl := [(0, .bp jB 0), (1, .int .u16 w), (4, .rp jF 5 (p.stack.length - 1) 0), (5, .bp (5, 0, 0) 0)]) (hl := [((5, 0, 0), Za6 (Zbl b))] ++ memL m p) (F := famW p.stack) [] rfl (fun c hc => by cases hc) ?_ ?_ ?_ LW_keepL) ?_
    · exact .cons (.bp rfl rfl) (.cons (.imm rfl) (.cons (.rp rfl rfl rfl) (.cons (.bp rfl rfl) .nil)))
    · exact .old rfl rfl (GB.one (GVs.imm rfl) (fun _ => rfl)) (Zck rfl rfl rfl rfl (fun _ => rfl) rfl rfl rfl rfl rfl rfl rfl (fun q hq => Zcg hq))
    · exact Ze9 (fun _ _ => rfl) (fun q hq => Za9 hq)
    have hle : p.stack.length - 1 < p.stack.length := by omega
    have hzz : d.toNat < (p.stack.getD (p.stack.length - 1) default).regs.length := by rw [hft]; omega
    have hat1 : (p.stack.getD (p.stack.length - 1) default).at_.toNat < b.ins.length := by rw [hft]; omega
    have hat0 : 0 ≤ (p.stack.getD (p.stack.length - 1) default).at_ := by rw [hft]; omega
    have hdl : 0 ≤ (b.ins.getD (p.stack.getD (p.stack.length - 1) default).at_.toNat default).dst ∧ (b.ins.getD (p.stack.getD (p.stack.length - 1) default).at_.toNat default).dst.toNat < (topF p).regs.length := by rw [hft, hdd, hf]; omega
    ((repeat' first | (refine Zap tok mix (by rfl) ?_; conv => whnf) | (refine @And.intro (Zaa _ _ _ _) _ ?_ ?_; rotate_left; (conv => whnf); rotate_right)); all_goals (try ((guard_target = Zaa _ _ _ _); refine Zae ?_; (all_goals (try simp only [Zaa, kzz, kz11, kz12, maxL, Zad] at *)); all_goals omega)))
    refine fAV (x := Zbg p.stack (p.stack.length - 1)) (y := .rs jT 1 0 (topF p).regs.length) (Zbe hp0 rfl) ?_
    conv => whnf
    ((repeat' first | refine Zac ?_ | (refine Zab tok (by rfl) ?_; conv => whnf) | (refine @And.intro (Zaa _ _ _ _) _ ?_ ?_; rotate_left; (conv => whnf); rotate_right)); all_goals (try ((guard_target = Zaa _ _ _ _); refine Zae ?_; (all_goals (try simp only [Zaa, kzz, kz11, kz12, maxL, Zad] at *)); all_goals omega)))
    refine fAV (x := Zbg p.stack (p.stack.length - 1)) (y := .rs jT 1 0 (topF p).regs.length) (Zbe hp0 rfl) ?_
    conv => whnf
    (repeat' (refine Zaj ?_; conv => whnf))
    refine ⟨_, srcT jE jT, rfl, ?_⟩
    rw [← and_assoc]
    refine ⟨leaveG (s := p) (g := { frW f d w with at_ := f.at_ + 1 }) (n' := p.stack.length) hp0 rfl rfl (.inr (.inl rfl)) (.inr (.inr rfl)) rfl ?_ rfl (Nat.le_refl _) (fun q hq => ?_) ?_ rfl (Zd4 _) rfl (GB.rowI (Nat.le_of_eq (by simp [frW, hf])) (fun q hq => ⟨?_, ?_⟩)) (fun q hq => ?_), .tup .nil, keepT⟩
    · exact Zd7 (s := Zbu p { frW f d w with at_ := f.at_ + 1 }) (Zc1 (s := p) hp0).symm rfl rfl rfl rfl
    · exact Zcu (by omega)
    · refine Zdh.trans ?_
      rw [hft, hf, Zal (by omega) (by omega)]
      simp [frO, frW]
    · rw [Nat.zero_add, hft, hdd, rowSet (l := (topF p).regs) (by rw [hf]; omega)]; rfl
    · rw [Nat.zero_add, hft, hdd, rowSet (l := (topF p).regs) (by rw [hf]; omega), hf]; rfl
    · exact Za0 hq
  · exfalso
    rw [hft] at hb
    simp only [decide_eq_false_iff_not] at hb
    omega
end Go.Proofs.Ytoelbgjpmpoolaa
namespace Go.Proofs.Ytoelbgjpmpoolaa
open Go Dv
set_option maxRecDepth 10000
set_option linter.unusedSimpArgs false
set_option maxHeartbeats 4000000 in
theorem c_mAns3 (m : Zai) (s p : Mach) (f : Zaw) (w d : Int) (hp : popM s = p) (hf : topF p = f) (h2 : 1 < s.stack.length) (h32 : s.stack.length ≤ 32) (hF : OkF m f) (hn : endB m f = true) (hdd : (Zas m f).fin.dst = d) (hd : 0 ≤ d ∧ d < f.regs.length) (hat : f.at_ < 1000000) :
    HG Try.prog LW 29 (mem m s) [.bp jB 0, .int .u16 w] (.tup []) (mem m (Zbu p { frW f d w with block := (Zas m f).fin.to, at_ := 0 })) := by
  refine Za4 tok Try.func29 rfl (by decide +kernel) (Nat.le_of_ble_eq_true rfl) ?_
  have hmx : maxL = 4294967296 := rfl
  have hpl : p.stack.length = s.stack.length - 1 := by rw [← hp]; exact Zcr
  have hP := c_mPop m s (by omega) (by omega)
  rw [hp] at hP
  have hft : p.stack.getD (p.stack.length - 1) default = f := hf
  have hB : HG Try.prog LW 27 (mem m p) [.bp jB 0, .rp jF 5 (p.stack.length - 1) 0] (.agg (Zbl (Zas m f))) (mem m p) := by
    have := Zc7 m p (p.stack.length - 1) (by omega) (by rw [hft]; exact hF)
    rw [hft] at this; exact this
  have hE : f.at_ = (Zas m f).ins.length := of_decide_eq_true hn
  have hgen : ∃ b, Zas m f = b := ⟨_, rfl⟩
  obtain ⟨b, hbe⟩ := hgen
  have a0 := hF.a0
  have a1 := hF.a1
  rw [hbe] at hB hE hdd a1 ⊢
  have hp0 : 0 < p.stack.length := by omega
  (repeat' ((fail_if_success (show AWp _ _ _ (Code.region 1 _ _) _ _)); first | refine Zac ?_ | (refine Zab tok (by rfl) ?_; conv => whnf)))
  refine .inr ⟨_, _, _, uG (QH.tnM (by simp) (by simp) hP (by omega) (Zaz rfl rfl rfl rfl (fun _ => rfl)) rfl (fun q hq => Zan hq)), ?_⟩
  conv => whnf
  (repeat' ((fail_if_success (show AWp _ _ _ (Code.region 2 _ _) _ _)); (fail_if_success (show AWp _ _ _ (Code.region 3 _ _) _ _)); first | refine Zac ?_ | (refine Zab tok (by rfl) ?_; conv => whnf) | (refine Zag ?_; conv => whnf) | refine Zaf rfl (fun hb => ?_) (fun hb => ?_)))
  · exfalso; simp only [decide_eq_true_eq] at hb; omega
  clear hb
  (repeat' ((fail_if_success (show AWp _ _ _ (Code.region 4 _ _) _ _)); (refine Zab tok (by rfl) ?_; conv => whnf)))
  refine .inr ⟨_, _, _, uG (QH.tnM (by simp) (by simp) (Zfe m p hp0 (by omega)) (by omega) (Zaz rfl rfl rfl rfl (fun q => Zbn (fun hq => Zan (by omega)))) rfl (fun q hq => (Zbn (fun hq => Zan (by omega))).trans (Zan hq))), ?_⟩
  conv => whnf
  (repeat' ((fail_if_success (show AWp _ _ _ (Code.region 5 _ _) _ _)); first | refine Zac ?_ | (refine Zab tok (by rfl) ?_; conv => whnf)))
  refine .inr ⟨_, _, _, uG (QH.tnM (by simp) (by simp) hB (by omega) (Zaz rfl rfl rfl rfl (fun q => Zbn (fun hq => big_far (by omega) hq (Zan (by omega))))) rfl (fun q hq => (Zbn (fun hq => big_far (by omega) hq (Zan (by omega)))).trans (Zan hq))), ?_⟩
  conv => whnf
  ((repeat' ((fail_if_success (show AWp _ _ _ (Code.region 6 _ _) _ _)); (fail_if_success (show AWp _ _ _ (Code.region 8 _ _) _ _)); first | refine Zac ?_ | (refine Zap tok mix (by rfl) ?_; conv => whnf) | (refine Zag ?_; conv => whnf) | refine Zaf rfl (fun hb => ?_) (fun hb => ?_) | (refine @And.intro (Zaa _ _ _ _) _ ?_ ?_; rotate_left; (conv => whnf); rotate_right))); all_goals (try ((guard_target = Zaa _ _ _ _); refine Zae ?_; (all_goals (try simp only [Zaa, kzz, kz11, kz12, maxL, Zad] at *)); all_goals omega)))
  · exfalso
    rw [hft] at hb
    simp only [decide_eq_true_eq] at hb
    omega
  clear hb
  refine Zau (Weak.fam (L := LW) (tl := [(0, .bp jB 0), (1, .int .u16 w), (4, .rp jF 5 (p.stack.length - 1) 0), (5, .bp (5, 0, 0) 0)]) (hl := [((5, 0, 0), Za6 (Zbl b))] ++ memL m p) (F := famW p.stack) [] rfl (fun c hc => by cases hc) ?_ ?_ ?_ LW_keepL) ?_
  · exact .cons (.bp rfl rfl) (.cons (.imm rfl) (.cons (.rp rfl rfl rfl) (.cons (.bp rfl rfl) .nil)))
  · exact .old rfl rfl (GB.one (GVs.imm rfl) (fun _ => rfl)) (Zck rfl rfl rfl rfl (fun _ => rfl) rfl rfl rfl rfl rfl rfl rfl (fun q hq => Zcg hq))
  · exact Ze9 (fun _ _ => rfl) (fun q hq => Za9 hq)
  have hle : p.stack.length - 1 < p.stack.length := by omega
  have hzz : d.toNat < (p.stack.getD (p.stack.length - 1) default).regs.length := by rw [hft]; omega
  have hdl : 0 ≤ b.fin.dst ∧ b.fin.dst.toNat < (topF p).regs.length := by rw [hdd, hf]; omega
  have hG := c_Go (frW (topF p) d w) b.fin.to
  ((repeat' first | (refine Zap tok mix (by rfl) ?_; conv => whnf) | (refine @And.intro (Zaa _ _ _ _) _ ?_ ?_; rotate_left; (conv => whnf); rotate_right)); all_goals (try ((guard_target = Zaa _ _ _ _); refine Zae ?_; (all_goals (try simp only [Zaa, kzz, kz11, kz12, maxL, Zad] at *)); all_goals omega)))
  refine fAV (x := Zbg p.stack (p.stack.length - 1)) (y := .rs jT 1 0 (topF p).regs.length) (Zbe hp0 rfl) ?_
  conv => whnf
  ((repeat' ((fail_if_success (show AWp _ _ _ (Code.region 9 _ _) _ _)); (refine @And.intro (Zaa _ _ _ _) _ ?_ ?_; rotate_left; (conv => whnf); rotate_right))); all_goals (try ((guard_target = Zaa _ _ _ _); refine Zae ?_; (all_goals (try simp only [Zaa, kzz, kz11, kz12, maxL, Zad] at *)); all_goals omega)))
  refine Zdx tok mix (by rfl) [0, 1, 2, 3, 4, 5, 6, 8] 30 (by rfl) (by rfl) (by rfl) ?_
  conv => whnf
  repeat' first
    | (refine fAV (x := Zbg p.stack (p.stack.length - 1)) (y := .rs jT 1 0 (topF p).regs.length) (Zbe hp0 rfl) ?_; (conv => whnf))
    | (refine @And.intro (Zaa _ _ _ _) _ ?_ ?_; rotate_left; (conv => whnf); rotate_right)
    | (guard_target = And _ _; refine @And.intro (gOp _ _ _ _ _ _ _ _ _) _ (by (conv => whnf); first | exact ⟨rfl, rfl⟩ | (refine fAV (x := Zbg p.stack (p.stack.length - 1)) (y := .rs jT 1 0 (topF p).regs.length) (Zbe hp0 rfl) ?_; (conv => whnf); exact ⟨rfl, rfl⟩)) ?_; conv => whnf)
    | (guard_target = And _ _; refine And.intro ?_ ?_ <;> (conv => whnf))
  all_goals (try ((guard_target = Zaa _ _ _ _); refine Zae ?_; (all_goals (try simp only [Zaa, kzz, kz11, kz12, maxL, Zad] at *)); all_goals omega))
  all_goals (try (show AV.agg [_, _, _, Zbg p.stack (p.stack.length - 1), _] = AV.agg [_, _, _, .rs jT 1 0 (topF p).regs.length, _]; rw [Zbe hp0 rfl]; done))
  all_goals refine .inr ⟨_, _, _, uG (QH.lendF (rd := [jT]) hG (.cons (.agg (.cons (.imm rfl) (.cons (.imm rfl) (.cons (.imm rfl) (.cons (.row rfl (.head _) rfl ?_ (fun q hq => ?_)) (.cons (.imm rfl) .nil)))))) (.cons (.imm rfl) .nil)) (fun i hi => by rw [Zcz hi]; rfl) rfl (fun j b e => by
    have := Zcz (i := j) (by rw [e]; rfl)
    subst this; cases e; exact fun i hi => rfl)), ?_⟩
  all_goals (try (show (topF p).regs.length = _; simp [frW]; done))
  all_goals (try (rw [Nat.zero_add, hdd]; exact (rowSet (l := (topF p).regs) (by rw [hf]; omega)); done))
  all_goals conv => whnf
  all_goals (repeat' first
    | (refine fAV (x := Zbg p.stack (p.stack.length - 1)) (y := .rs jT 1 0 (topF p).regs.length) (Zbe hp0 rfl) ?_; (conv => whnf))
    | (refine @And.intro (Zaa _ _ _ _) _ ?_ ?_; rotate_left; (conv => whnf); rotate_right)
    | (guard_target = And _ _; refine @And.intro (gOp _ _ _ _ _ _ _ _ _) _ (by (conv => whnf); first | exact ⟨rfl, rfl⟩ | (refine fAV (x := Zbg p.stack (p.stack.length - 1)) (y := .rs jT 1 0 (topF p).regs.length) (Zbe hp0 rfl) ?_; (conv => whnf); exact ⟨rfl, rfl⟩)) ?_; conv => whnf)
    | (guard_target = And _ _; refine And.intro ?_ ?_ <;> (conv => whnf)))
  all_goals (try ((guard_target = Zaa _ _ _ _); refine Zae ?_; (all_goals (try simp only [Zaa, kzz, kz11, kz12, maxL, Zad] at *)); all_goals omega))
  all_goals (try (show AV.agg [_, _, _, Zbg p.stack (p.stack.length - 1), _] = AV.agg [_, _, _, .rs jT 1 0 (topF p).regs.length, _]; rw [Zbe hp0 rfl]; done))
  skip
  refine ⟨_, srcT jE r0, rfl, ?_⟩
  rw [← and_assoc]
  refine ⟨leaveG (s := p) (g := { frW (topF p) d w with block := b.fin.to, at_ := 0 }) (n' := p.stack.length) hp0 ?_ rfl (.inr (.inl rfl)) (.inl rfl) rfl ?_ rfl (Nat.le_refl _) (fun q hq => ?_) ?_ rfl (Zd4 _) rfl (Zbs _) (fun q hq => ?_), .tup .nil, keepT⟩
  · rw [hf]
  · exact Zd7 (s := Zbu p { frW f d w with block := b.fin.to, at_ := 0 }) (Zc1 (s := p) hp0).symm rfl rfl rfl rfl
  · exact Zcu (by omega)
  · exact Zdh
  · refine Zes (d := []) (u := oneR (frW (topF p) d w).regs) rfl rfl ?_
    exact Za0 hq
theorem c_mAns (m : Zai) (s : Mach) (w : Int) (h : 0 < s.stack.length) (h32 : s.stack.length ≤ 32) (hF : 1 < s.stack.length → OkF m (topF (popM s))) (hat : 1 < s.stack.length → (topF (popM s)).at_ < 1000000)
    (hd1 : 1 < s.stack.length → endB m (topF (popM s)) = true → 0 ≤ (Zas m (topF (popM s))).fin.dst ∧ (Zas m (topF (popM s))).fin.dst < (topF (popM s)).regs.length)
    (hd2 : 1 < s.stack.length → endB m (topF (popM s)) = false → 0 ≤ ((Zas m (topF (popM s))).ins.getD (topF (popM s)).at_.toNat default).dst ∧ ((Zas m (topF (popM s))).ins.getD (topF (popM s)).at_.toNat default).dst < (topF (popM s)).regs.length) :
    HG Try.prog LW 29 (mem m s) [.bp jB 0, .int .u16 w] (.tup []) (mem m (Zbq m s w)) := by
  unfold Zbq
  by_cases h1 : s.stack.length = 1
  · rw [if_pos h1]; exact c_mAns1 m s w h1
  · have h2 : 1 < s.stack.length := by omega
    rw [if_neg h1]
    unfold answF
    cases e : endB m (topF (popM s)) with
    | true => rw [if_pos rfl]; exact c_mAns3 m s _ _ w _ rfl rfl h2 h32 (hF h2) e rfl (hd1 h2 e) (hat h2)
    | false => rw [if_neg (by decide)]; exact c_mAns2 m s _ _ w _ rfl rfl h2 h32 (hF h2) e rfl (hd2 h2 e) (hat h2)
end Go.Proofs.Ytoelbgjpmpoolaa
namespace Go.Proofs.Ytoelbgjpmpoolaa
open Go Dv
set_option maxRecDepth 10000
set_option linter.unusedSimpArgs false
def memE (el : List (Dv.Id × Zam)) (m : Zai) (s : Mach) : Zao := orH (Zay (el ++ memL m s)) (famW s.stack)
theorem lookH_app (a b : List (Dv.Id × Zam)) (j : Dv.Id) : Zay (a ++ b) j = match Zay a j with
    | some x => some x
    | none => Zay b j := by
  induction a with
  | nil => rfl
  | cons p r ih =>
    simp only [List.cons_append, Zay]
    cases idEq p.1 j with
    | true => rfl
    | false => exact ih
theorem memE_eq {el : List (Dv.Id × Zam)} {m : Zai} {s : Mach} {j : Dv.Id} : memE el m s j = match Zay el j with
    | some x => some x
    | none => mem m s j := by
  unfold memE mem orH
  rw [lookH_app]
  cases Zay el j <;> rfl
theorem Zew {el : List (Dv.Id × Zam)} {m : Zai} {s : Mach} {j : Dv.Id} (h : Zay el j = none) : memE el m s j = mem m s j := by rw [memE_eq, h]
theorem mem_map {m : Zai} {s : Mach} {ρ : Dv.Id → Option Dv.Id} (hF : ρ jF = some jF) (hE : ρ jE = some jE) (hT : ρ jT = some jT) (hq : ∀ q, q < s.stack.length - 1 → ρ (945, 0, q) = some (945, 0, q)) {j : Dv.Id} {b : Zam} (h : mem m s j = some b) : Dv.mapB ρ b = b := by
  rcases Zb4 h with ⟨rfl, rfl⟩ | ⟨rfl, rfl⟩ | ⟨rfl, rfl⟩ | ⟨rfl, rfl⟩ | ⟨q, rfl, hq, rfl⟩
  · show Zam.row false 22 1 (fun _ => Zbk ρ (macC m s)) = Zam.row false 22 1 (fun _ => macC m s)
    congr 1
    funext x
    show (match ρ jF with | some j => AV.rs j 5 0 s.stack.length | none => .any) :: _ = _
    rw [hF]
    unfold macC
    show _ :: [_, _, _, _, _, _, _, _, _, _, _, _, _, _, _, _, _, (match ρ jE with | some j => AV.rs j 1 0 s.events.length | none => .any), _, _, _] = _
    rw [hE]; rfl
  · show Zam.row false 5 s.stack.length (fun q => Zbk ρ (frC s.stack q)) = Zam.row false 5 s.stack.length (frC s.stack)
    congr 1
    funext q
    show [_, _, _, Zbh _ (Zbg s.stack q), _] = _
    unfold frC
    congr 4
    unfold Zbg
    by_cases hq2 : q < s.stack.length - 1
    · rw [Zb9 hq2]
      show (match ρ (945, 0, q) with | some j => AV.rs j 1 0 _ | none => .any) = _
      rw [hq q hq2]
    · rw [Zdc (by omega)]
      show (match ρ jT with | some j => AV.rs j 1 0 _ | none => .any) = _
      rw [hT]
  · rfl
  · rfl
  · rfl
theorem kpH_is {h : Zao} {i : Dv.Id} (e : (h i).isSome = true) : kpH h i = some i := by
  unfold kpH; cases e2 : h i with
  | none => rw [e2] at e; cases e
  | some b => rfl
abbrev jX : Dv.Id := (3, 7, 0)
abbrev LX : List Dv.Id := [jB, jF, jX]
def frA (f : Zaw) : List AV := [iv f.f, iv f.block, iv f.at_, .any, .int .u16 f.fly]
def xL (s : Mach) (i : Nat) : List (Dv.Id × Zam) := [(jX, .row false 5 1 (fun _ => frA (s.stack.getD i default)))]
theorem memX_kp {m : Zai} {s : Mach} {i q : Nat} (h : q < s.stack.length - 1) : kpH (memE (xL s i) m s) (945, 0, q) = some (945, 0, q) :=
  kpH_is (show (famW s.stack (945, 0, q)).isSome = true by rw [Za0 h]; rfl)
theorem memX_closed (m : Zai) (s : Mach) (i : Nat) : ∀ j b, memE (xL s i) m s j = some b → Dv.mapB (kpH (memE (xL s i) m s)) b = b := by
  intro j b e
  rw [memE_eq] at e
  cases e1 : idEq jX j with
  | true =>
    rw [show Zay (xL s i) j = some (.row false 5 1 (fun _ => frA (s.stack.getD i default))) from by simp only [xL, Zay, e1]; rfl] at e
    cases e
    show Zam.row false 5 1 (fun _ => Zbk _ (frA (s.stack.getD i default))) = _
    rfl
  | false =>
    rw [show Zay (xL s i) j = none from by simp only [xL, Zay, e1]; rfl] at e
    exact mem_map (kpH_is rfl) (kpH_is rfl) (kpH_is rfl) (fun q hq => memX_kp hq) e
theorem memX_sub {m : Zai} {s : Mach} {i : Nat} {h : Zao} (h0 : h jX = some (.row false 5 1 (fun _ => frA (s.stack.getD i default)))) (h1 : h jB = some (macB m s)) (h2 : h jF = some (Zcx s.stack)) (h3 : h jE = some (evB s.events)) (h4 : h jT = some (regB (topF s).regs)) (h5 : ∀ q, h (945, 0, q) = famW s.stack (945, 0, q)) : ∀ j b, memE (xL s i) m s j = some b → h j = some b := fun j b e => by
  rw [memE_eq] at e
  cases e1 : idEq jX j with
  | true =>
    rw [show Zay (xL s i) j = some (.row false 5 1 (fun _ => frA (s.stack.getD i default))) from by simp only [xL, Zay, e1]; rfl] at e
    cases e
    rw [← Zav.1 e1]; exact h0
  | false =>
    rw [show Zay (xL s i) j = none from by simp only [xL, Zay, e1]; rfl] at e
    exact Zaz h1 h2 h3 h4 h5 j b e
theorem QH.tnX {P : Program} {f : FuncId} {m : Zai} {s : Mach} {i : Nat} {args : List AV} {r : AV} {h : Zao} (hc : HG P LX f (memE (xL s i) m s) args r (memE (xL s i) m s)) (h32 : s.stack.length ≤ 32) (hsub : ∀ j b, memE (xL s i) m s j = some b → h j = some b)
    (hag : Zbk (kpH (memE (xL s i) m s)) args = args) (hfree : ∀ q, famW s.stack (945, 0, q) = none → h (945, 0, q) = none) : QH P h f args dK (memE (xL s i) m s) r := by
  refine QH.frame hc hsub (memX_closed m s i) hag (fun j hj => ?_) (fun j hj => .inl hj) (fun j hj => ?_)
  · cases e : memE (xL s i) m s j with
    | none => rw [e] at hj; cases hj
    | some b =>
      rw [memE_eq] at e
      cases e1 : idEq jX j with
      | true => rw [← Zav.1 e1]; exact .inr ⟨.tail _ (.tail _ (.head _)), rfl, rfl⟩
      | false =>
        rw [show Zay (xL s i) j = none from by simp only [xL, Zay, e1]; rfl] at e
        rcases Zb4 e with ⟨rfl, _⟩ | ⟨rfl, _⟩ | ⟨rfl, _⟩ | ⟨rfl, _⟩ | ⟨q, rfl, hq, _⟩
        · exact .inr ⟨.head _, rfl, rfl⟩
        · exact .inr ⟨.tail _ (.head _), rfl, rfl⟩
        · exact .inl rfl
        · exact .inl rfl
        · exact .inl (Zb7.2 (List.mem_cons_of_mem _ (List.mem_cons_of_mem _ (Zf0.2 ⟨q, by omega, rfl⟩))))
  · rcases List.mem_cons.1 (Zb7.1 hj) with rfl | hj
    · exact .inl rfl
    rcases List.mem_cons.1 hj with rfl | hj
    · exact .inl rfl
    obtain ⟨q, _, rfl⟩ := Zf0.1 hj
    by_cases hq2 : q < s.stack.length - 1
    · exact .inl (show (famW s.stack (945, 0, q)).isSome = true by rw [Za0 hq2]; rfl)
    · exact .inr (hfree q (Zan (by omega)))
theorem leaveX {m : Zai} {s : Mach} {i : Nat} {h : Zao} (h0 : h jX = some (.row false 5 1 (fun _ => frA (s.stack.getD i default)))) {b0 : Zam} (h1 : h jB = some b0) (hB : GB (srcL []) h (memE (xL s i) m s) b0 (macB m s)) (h2 : h jF = some (Zcx s.stack)) (h3 : h jE = some (evB s.events)) (h4 : h jT = some (regB (topF s).regs)) (h5 : ∀ q, q < s.stack.length - 1 → h (945, 0, q) = some (regB (s.stack.getD q default).regs)) :
    (∀ j j' k, (memE (xL s i) m s j).isSome = true → (memE (xL s i) m s j').isSome = true → srcL [] j = some k → srcL [] j' = some k → j = j') ∧ ∀ j b, memE (xL s i) m s j = some b → HOk (srcL []) h (memE (xL s i) m s) j b := by
  refine ⟨fun j j' k _ _ e1 e2 => by cases e1; cases e2; rfl, fun j b e => ?_⟩
  have hfam : ∀ q, q < s.stack.length - 1 → (memE (xL s i) m s (945, 0, q)).isSome = true := fun q hq => by
    show (famW s.stack (945, 0, q)).isSome = true; rw [Za0 hq]; rfl
  rw [memE_eq] at e
  cases e1 : idEq jX j with
  | true =>
    rw [show Zay (xL s i) j = some (.row false 5 1 (fun _ => frA (s.stack.getD i default))) from by simp only [xL, Zay, e1]; rfl] at e
    cases e
    rw [← Zav.1 e1]
    refine HOk.mk rfl h0 (GB.one ?_ (fun e => by cases e))
    exact .cons (.imm rfl) (.cons (.imm rfl) (.cons (.imm rfl) (.cons .any (.cons (.imm rfl) .nil))))
  | false =>
    rw [show Zay (xL s i) j = none from by simp only [xL, Zay, e1]; rfl] at e
    rcases Zb4 e with ⟨rfl, rfl⟩ | ⟨rfl, rfl⟩ | ⟨rfl, rfl⟩ | ⟨rfl, rfl⟩ | ⟨q, rfl, hq, rfl⟩
    · exact HOk.mk rfl h1 hB
    · exact HOk.mk rfl h2 (GB_fr (fun _ _ => rfl) rfl hfam rfl)
    · exact HOk.mk rfl h3 (Zd4 _)
    · exact HOk.mk rfl h4 (Zbs _)
    · exact HOk.mk rfl (h5 q hq) (Zbs _)
theorem LW_keepX {m : Zai} {s : Mach} {i : Nat} : ∀ j ∈ LX, Zeb j = true → (memE (xL s i) m s j).isSome = true ∧ srcL [] j = some j := fun j hj _ => by
  rcases List.mem_cons.1 hj with rfl | hj
  · exact ⟨rfl, rfl⟩
  rcases List.mem_cons.1 hj with rfl | hj
  · exact ⟨rfl, rfl⟩
  · rw [List.mem_singleton.1 hj]; exact ⟨rfl, rfl⟩
theorem c_mBlockX (m : Zai) (s : Mach) (i : Nat) (hi : i < s.stack.length) (hF : OkF m (s.stack.getD i default)) : HG Try.prog LX 27 (memE (xL s i) m s) [.bp jB 0, .bp jX 0] (.agg (Zbl (Zas m (s.stack.getD i default)))) (memE (xL s i) m s) := by
  refine Za4 tok Try.func27 rfl (by decide +kernel) (Nat.le_of_ble_eq_true rfl) ?_
  have hmx : maxL = 4294967296 := rfl
  have f0 := hF.f0
  have f1 := hF.f1
  have b0 := hF.b0
  have b1 : (s.stack.getD i default).block < (m.funcs.getD (s.stack.getD i default).f.toNat default).blocks.length := hF.b1
  ((repeat' first | refine Zac ?_ | (refine Zab tok (by rfl) ?_; conv => whnf) | (refine Zap tok mix (by rfl) ?_; conv => whnf) | (refine Zaj ?_; conv => whnf) | (refine @And.intro (Zaa _ _ _ _) _ ?_ ?_; rotate_left; (conv => whnf); rotate_right)); all_goals (try ((guard_target = Zaa _ _ _ _); refine Zae ?_; (all_goals (try simp only [Zaa, kzz, kz11, kz12, maxL, Zad] at *)); all_goals omega)))
  refine ⟨_, srcL [], rfl, ?_⟩
  rw [← and_assoc]
  exact ⟨leaveX rfl rfl (Zce rfl rfl rfl) rfl rfl rfl (fun q hq => Za0 hq), .agg (GVs.imm rfl), LW_keepX⟩
theorem bigX_fam {m : Zai} {s : Mach} {i : Nat} {d : List Dv.Id} {h : Zao} {q : Nat} (hq : q < s.stack.length - 1) : bigH d (memE (xL s i) m s) h (945, 0, q) = some (regB (s.stack.getD q default).regs) := by
  unfold bigH
  rw [show memE (xL s i) m s (945, 0, q) = famW s.stack (945, 0, q) from rfl, Za0 hq]
set_option maxHeartbeats 2000000 in
theorem c_mPadX (m : Zai) (s : Mach) (i : Nat) (hi : i < s.stack.length) (h32 : s.stack.length ≤ 32) (hF : OkF m (s.stack.getD i default)) (hp : (Zas m (s.stack.getD i default)).fin.kind = 4 → 0 ≤ (Zas m (s.stack.getD i default)).fin.pad ∧ (Zas m (s.stack.getD i default)).fin.pad < (Zdk m (s.stack.getD i default)).blocks.length) :
    HG Try.prog LX 46 (memE (xL s i) m s) [.bp jB 0, .bp jX 0] (.tup [iv (padV m (s.stack.getD i default)).1, .agg (encPad (padV m (s.stack.getD i default)).2.1), .bool (padV m (s.stack.getD i default)).2.2]) (memE (xL s i) m s) := by
  refine Za4 tok Try.func46 rfl (by decide +kernel) (Nat.le_of_ble_eq_true rfl) ?_
  have hmx : maxL = 4294967296 := rfl
  have hB := c_mBlockX m s i hi hF
  have f0 := hF.f0
  have f1 := hF.f1
  have a0 := hF.a0
  have a1 := hF.a1
  have hE : endB m (s.stack.getD i default) = decide ((s.stack.getD i default).at_ = (Zas m (s.stack.getD i default)).ins.length) := rfl
  have hpl : (Zas m (s.stack.getD i default)).fin.kind = 4 → 0 ≤ (Zas m (s.stack.getD i default)).fin.pad ∧ (Zas m (s.stack.getD i default)).fin.pad < (m.funcs.getD (s.stack.getD i default).f.toNat default).blocks.length := hp
  have hpf : padF m (s.stack.getD i default) = ((m.funcs.getD (s.stack.getD i default).f.toNat default).blocks.getD (Zas m (s.stack.getD i default)).fin.pad.toNat default).pad := rfl
  have hV : padV m (s.stack.getD i default) = if endB m (s.stack.getD i default) = true ∧ (Zas m (s.stack.getD i default)).fin.kind = 4 then ((Zas m (s.stack.getD i default)).fin.pad, padF m (s.stack.getD i default), true) else (0, ⟨0, [], false, false⟩, false) := rfl
  have hgen : ∃ b, Zas m (s.stack.getD i default) = b := ⟨_, rfl⟩
  obtain ⟨b, hbe⟩ := hgen
  rw [hbe] at hB hE hpl hpf hV a1
  (repeat' first | refine Zac ?_ | (refine Zab tok (by rfl) ?_; conv => whnf))
  refine .inr ⟨_, _, _, uG (QH.tnX hB h32 (memX_sub rfl rfl rfl rfl rfl (fun _ => rfl)) rfl (fun q hq => hq)), ?_⟩
  conv => whnf
  (repeat' ((fail_if_success (show AWp _ _ _ (Code.region 3 _ _) _ _)); (fail_if_success (show AWp _ _ _ (Code.region 4 _ _) _ _)); first | refine Zac ?_ | (refine Zap tok mix (by rfl) ?_; conv => whnf) | (refine Zag ?_; conv => whnf) | refine Zaf rfl (fun hb => ?_) (fun hb => ?_)))
  · have hn : ¬ (endB m (s.stack.getD i default) = true ∧ b.fin.kind = 4) := by
      rintro ⟨h1, h2⟩
      rw [hE, decide_eq_true_eq] at h1
      rw [decide_eq_false (show ¬ (s.stack.getD i default).at_ < (b.ins.length : Int) by omega), decide_eq_true h2] at hb
      cases hb
    rw [if_neg hn] at hV
    rw [hV]
    (repeat' first | (refine Zab tok (by rfl) ?_; conv => whnf) | (refine Zaj ?_; conv => whnf))
    refine ⟨_, srcL [], rfl, ?_⟩
    rw [← and_assoc]
    exact ⟨leaveX rfl rfl (Zce rfl rfl rfl) rfl rfl rfl (fun q hq => bigX_fam hq), .tup (.cons (.imm rfl) (.cons (.agg (.cons (.imm rfl) (.cons (.wk rfl (.nsl rfl)) (.cons (.imm rfl) (.cons (.imm rfl) .nil))))) (.cons (.imm rfl) .nil))), LW_keepX⟩
  have hy : endB m (s.stack.getD i default) = true ∧ b.fin.kind = 4 := by
    rw [hE, decide_eq_true_eq]
    by_cases e1 : (s.stack.getD i default).at_ < (b.ins.length : Int)
    · rw [decide_eq_true e1] at hb; cases hb
    · rw [decide_eq_false e1] at hb
      by_cases e2 : b.fin.kind = 4
      · exact ⟨by omega, e2⟩
      · rw [decide_eq_false e2] at hb; cases hb
  clear hb
  rw [if_pos hy] at hV
  rw [hV]
  obtain ⟨hp0, hp1⟩ := hpl hy.2
  ((repeat' first | (refine Zap tok mix (by rfl) ?_; conv => whnf) | (refine Zaj ?_; conv => whnf) | (refine @And.intro (Zaa _ _ _ _) _ ?_ ?_; rotate_left; (conv => whnf); rotate_right)); all_goals (try ((guard_target = Zaa _ _ _ _); refine Zae ?_; (all_goals (try simp only [Zaa, kzz, kz11, kz12, maxL, Zad] at *)); all_goals omega)))
  refine ⟨_, srcL [], rfl, ?_⟩
  rw [← and_assoc]
  rw [hpf]
  exact ⟨leaveX rfl rfl (Zce rfl rfl rfl) rfl rfl rfl (fun q hq => bigX_fam hq), .tup (.cons (.imm rfl) (.cons (.agg (GVs.imm rfl)) (.cons (.imm rfl) .nil))), LW_keepX⟩
end Go.Proofs.Ytoelbgjpmpoolaa
namespace Go.Proofs.Ytoelbgjpmpoolaa
open Go Dv
set_option maxRecDepth 10000
set_option linter.unusedSimpArgs false
section
variable {P : Program} {f : FuncId} {m : Zai} {s : Mach} {args : List AV} {r : AV} {h : Zao} {el : List (Dv.Id × Zam)} {L : List Dv.Id}
theorem memE_some {j : Dv.Id} {b : Zam} (e : memE el m s j = some b) : Zay el j = some b ∨ (Zay el j = none ∧ mem m s j = some b) := by
  rw [memE_eq] at e
  cases e1 : Zay el j with
  | some x => rw [e1] at e; exact .inl e
  | none => rw [e1] at e; exact .inr ⟨rfl, e⟩
theorem memE_closed (hB : Zay el jF = none) (hE : Zay el jE = none) (hT : Zay el jT = none) (hq : ∀ q, Zay el (945, 0, q) = none) (hc : ∀ j b, Zay el j = some b → Dv.mapB (kpH (memE el m s)) b = b) : ∀ j b, memE el m s j = some b → Dv.mapB (kpH (memE el m s)) b = b := by
  intro j b e
  rcases memE_some e with e | ⟨_, e⟩
  · exact hc j b e
  · exact mem_map (kpH_is (by rw [Zew hB]; rfl)) (kpH_is (by rw [Zew hE]; rfl)) (kpH_is (by rw [Zew hT]; rfl)) (fun q hq2 => kpH_is (by rw [Zew (hq q), Zdr, Za0 hq2]; rfl)) e
theorem QH.tnE (hm1 : jB ∈ L) (hm2 : jF ∈ L) (hB : Zay el jB = none) (hF : Zay el jF = none) (hE : Zay el jE = none) (hT : Zay el jT = none) (hq : ∀ q, Zay el (945, 0, q) = none) (hcl : ∀ j b, Zay el j = some b → Dv.mapB (kpH (memE el m s)) b = b) (hp : ∀ j b, Zay el j = some b → j ∈ L ∧ Zeb j = true)
    (hc : HG P L f (memE el m s) args r (memE el m s)) (h32 : s.stack.length ≤ 32) (hsub : ∀ j b, memE el m s j = some b → h j = some b)
    (hag : Zbk (kpH (memE el m s)) args = args) (hfree : ∀ q, famW s.stack (945, 0, q) = none → h (945, 0, q) = none) : QH P h f args dK (memE el m s) r := by
  refine QH.frame hc hsub (memE_closed hF hE hT hq hcl) hag (fun j hj => ?_) (fun j hj => .inl hj) (fun j hj => ?_)
  · cases e : memE el m s j with
    | none => rw [e] at hj; cases hj
    | some b =>
      rcases memE_some e with e1 | ⟨_, e1⟩
      · have := hp j b e1
        exact .inr ⟨this.1, this.2, rfl⟩
      · rcases Zb4 e1 with ⟨rfl, _⟩ | ⟨rfl, _⟩ | ⟨rfl, _⟩ | ⟨rfl, _⟩ | ⟨q, rfl, hq2, _⟩
        · exact .inr ⟨hm1, rfl, rfl⟩
        · exact .inr ⟨hm2, rfl, rfl⟩
        · exact .inl rfl
        · exact .inl rfl
        · exact .inl (Zb7.2 (List.mem_cons_of_mem _ (List.mem_cons_of_mem _ (Zf0.2 ⟨q, by omega, rfl⟩))))
  · rcases List.mem_cons.1 (Zb7.1 hj) with rfl | hj
    · exact .inl (by rw [Zew hE]; rfl)
    rcases List.mem_cons.1 hj with rfl | hj
    · exact .inl (by rw [Zew hT]; rfl)
    obtain ⟨q, _, rfl⟩ := Zf0.1 hj
    by_cases hq2 : q < s.stack.length - 1
    · exact .inl (by rw [Zew (hq q), Zdr, Za0 hq2]; rfl)
    · exact .inr (hfree q (Zan (by omega)))
theorem memE_sub (hel : ∀ j b, Zay el j = some b → h j = some b) (h1 : h jB = some (macB m s)) (h2 : h jF = some (Zcx s.stack)) (h3 : h jE = some (evB s.events)) (h4 : h jT = some (regB (topF s).regs)) (h5 : ∀ q, h (945, 0, q) = famW s.stack (945, 0, q)) : ∀ j b, memE el m s j = some b → h j = some b := fun j b e => by
  rcases memE_some e with e1 | ⟨_, e1⟩
  · exact hel j b e1
  · exact Zaz h1 h2 h3 h4 h5 j b e1
end
abbrev c1 : Dv.Id := (4, 7, 0)
abbrev c2 : Dv.Id := (5, 7, 0)
abbrev LC : List Dv.Id := [jB, jF, c1, c2]
abbrev c1B : Zam := .row false 1 1 (fun _ => [.bp jB 0])
abbrev c2B (w : Int) : Zam := .row true 1 1 (fun _ => [.int .u16 w])
def cL (w : Int) : List (Dv.Id × Zam) := [(c1, c1B), (c2, c2B w)]
theorem cL_some {w : Int} {j : Dv.Id} {b : Zam} (h : Zay (cL w) j = some b) : (j = c1 ∧ b = c1B) ∨ (j = c2 ∧ b = c2B w) := by
  simp only [cL, Zay] at h
  cases e1 : idEq c1 j with
  | true => rw [e1] at h; exact .inl ⟨(Zav.1 e1).symm, (Option.some.inj h).symm⟩
  | false =>
    cases e2 : idEq c2 j with
    | true => rw [e1, e2] at h; exact .inr ⟨(Zav.1 e2).symm, (Option.some.inj h).symm⟩
    | false => rw [e1, e2] at h; cases h
theorem cL_closed {m : Zai} {s : Mach} {w : Int} : ∀ j b, Zay (cL w) j = some b → Dv.mapB (kpH (memE (cL w) m s)) b = b := fun j b e => by
  rcases cL_some e with ⟨rfl, rfl⟩ | ⟨rfl, rfl⟩ <;> rfl
theorem cL_pin {w : Int} : ∀ j b, Zay (cL w) j = some b → j ∈ LC ∧ Zeb j = true := fun j b e => by
  rcases cL_some e with ⟨rfl, rfl⟩ | ⟨rfl, rfl⟩
  · exact ⟨.tail _ (.tail _ (.head _)), rfl⟩
  · exact ⟨.tail _ (.tail _ (.tail _ (.head _))), rfl⟩
theorem LC_keep {m : Zai} {s : Mach} {w : Int} : ∀ j ∈ LC, Zeb j = true → (memE (cL w) m s j).isSome = true ∧ srcL [] j = some j := fun j hj _ => by
  rcases List.mem_cons.1 hj with rfl | hj
  · exact ⟨rfl, rfl⟩
  rcases List.mem_cons.1 hj with rfl | hj
  · exact ⟨rfl, rfl⟩
  rcases List.mem_cons.1 hj with rfl | hj
  · exact ⟨rfl, rfl⟩
  · rw [List.mem_singleton.1 hj]; exact ⟨rfl, rfl⟩
theorem LC_keep2 {tl : List (Dv.Id × Zam)} {F : Zao} {S : List (Dv.Id × Option Dv.Id)} (hB : (orH (Zay tl) F jB).isSome = true ∧ srcL S jB = some jB := by exact ⟨rfl, rfl⟩) (hF : (orH (Zay tl) F jF).isSome = true ∧ srcL S jF = some jF := by exact ⟨rfl, rfl⟩) (h1 : (orH (Zay tl) F c1).isSome = true ∧ srcL S c1 = some c1 := by exact ⟨rfl, rfl⟩) (h2 : (orH (Zay tl) F c2).isSome = true ∧ srcL S c2 = some c2 := by exact ⟨rfl, rfl⟩) : ∀ i ∈ LC, Zeb i = true → (orH (Zay tl) F i).isSome = true ∧ srcL S i = some i := fun i hi _ => by
  rcases List.mem_cons.1 hi with rfl | hi
  · exact hB
  rcases List.mem_cons.1 hi with rfl | hi
  · exact hF
  rcases List.mem_cons.1 hi with rfl | hi
  · exact h1
  · rw [List.mem_singleton.1 hi]; exact h2
theorem leaveC {m : Zai} {s : Mach} {w : Int} {h : Zao} (k1 : h c1 = some c1B) (k2 : h c2 = some (c2B w)) {b0 : Zam} (h1 : h jB = some b0) (hB : GB (srcL []) h (memE (cL w) m s) b0 (macB m s)) (h2 : h jF = some (Zcx s.stack)) (h3 : h jE = some (evB s.events)) (h4 : h jT = some (regB (topF s).regs)) (h5 : ∀ q, q < s.stack.length - 1 → h (945, 0, q) = some (regB (s.stack.getD q default).regs)) :
    (∀ j j' k, (memE (cL w) m s j).isSome = true → (memE (cL w) m s j').isSome = true → srcL [] j = some k → srcL [] j' = some k → j = j') ∧ ∀ j b, memE (cL w) m s j = some b → HOk (srcL []) h (memE (cL w) m s) j b := by
  refine ⟨fun j j' k _ _ e1 e2 => by cases e1; cases e2; rfl, fun j b e => ?_⟩
  have hfam : ∀ q, q < s.stack.length - 1 → (memE (cL w) m s (945, 0, q)).isSome = true := fun q hq => by
    show (famW s.stack (945, 0, q)).isSome = true; rw [Za0 hq]; rfl
  rcases memE_some e with e | ⟨_, e⟩
  · rcases cL_some e with ⟨rfl, rfl⟩ | ⟨rfl, rfl⟩
    · exact HOk.mk rfl k1 (GB.one (.cons (.bp rfl rfl) .nil) (fun e => by cases e))
    · exact HOk.mk rfl k2 (GB.one (.cons (.imm rfl) .nil) (fun _ => rfl))
  · rcases Zb4 e with ⟨rfl, rfl⟩ | ⟨rfl, rfl⟩ | ⟨rfl, rfl⟩ | ⟨rfl, rfl⟩ | ⟨q, rfl, hq, rfl⟩
    · exact HOk.mk rfl h1 hB
    · exact HOk.mk rfl h2 (GB_fr (fun _ _ => rfl) rfl hfam rfl)
    · exact HOk.mk rfl h3 (Zd4 _)
    · exact HOk.mk rfl h4 (Zbs _)
    · exact HOk.mk rfl (h5 q hq) (Zbs _)
theorem padV_catch {m : Zai} {f : Zaw} {w : Int} : (bif (padV m f).2.2 then catchF (padV m f).2.1 w else false) = Zex m f w false := by
  unfold padV Zex
  cases endB m f <;> by_cases h : (Zas m f).fin.kind = 4 <;> simp [h]
theorem padV_catch2 {m : Zai} {f : Zaw} {w : Int} : (bif (padV m f).2.2 then (bif (padV m f).2.1.cleanup then true else catchF (padV m f).2.1 w) else false) = Zex m f w true := by
  unfold padV Zex
  cases endB m f <;> by_cases h : (Zas m f).fin.kind = 4 <;> simp [h]
  cases (padF m f).cleanup <;> simp
set_option maxHeartbeats 4000000 in
theorem c_mThr1 (m : Zai) (s : Mach) (w : Int) (i : Nat) (hi : i < s.stack.length) (h32 : s.stack.length ≤ 32) (hF : OkF m (s.stack.getD i default)) (hp : (Zas m (s.stack.getD i default)).fin.kind = 4 → 0 ≤ (Zas m (s.stack.getD i default)).fin.pad ∧ (Zas m (s.stack.getD i default)).fin.pad < (Zdk m (s.stack.getD i default)).blocks.length) :
    HG Try.prog LC 45 (memE (cL w) m s) [.agg (frC s.stack i), .bp c1 0, .bp c2 0] (.bool (Zbt m s.stack w false i)) (memE (cL w) m s) := by
  refine Za4 tok Try.func45 rfl (by decide +kernel) (Nat.le_of_ble_eq_true rfl) ?_
  have hP := c_mPadX m s i hi h32 hF hp
  refine Zac ?_
  refine Zdn (α := Unit) (fun _ => ⟨lookT [(1, .bp c1 0), (2, .bp c2 0), (3, .bp jX 0), (4, .bool false)], orH (Zay (xL s i ++ (cL w ++ memL m s))) (famW s.stack)⟩) (fun _ => True) ?_ ?_
  · by_cases hq : i < s.stack.length - 1
    · refine Zau (Weak.fam (L := LC) (tl := [(0, .agg [iv (s.stack.getD i default).f, iv (s.stack.getD i default).block, iv (s.stack.getD i default).at_, .rs (945, 0, i) 1 0 (s.stack.getD i default).regs.length, .int .u16 (s.stack.getD i default).fly]), (1, .bp c1 0), (2, .bp c2 0)]) (hl := cL w ++ memL m s) (F := famW s.stack) [] rfl (fun c hc => by cases hc) ?_ ?_ ?_ LC_keep) ?_
      · exact .cons (.agg (.cons (.imm rfl) (.cons (.imm rfl) (.cons (.imm rfl) (.cons (.cc (Zb9 hq) rfl (.rs (Za0 hq) rfl rfl rfl)) (.cons (.imm rfl) .nil)))))) (.cons (.bp rfl rfl) (.cons (.bp rfl rfl) .nil))
      · refine .old rfl rfl (GB.one (.cons (.bp rfl rfl) .nil) (fun e => by cases e)) (.old rfl rfl (GB.one (.cons (.imm rfl) .nil) (fun _ => rfl)) ?_)
        exact Zck rfl rfl rfl rfl (fun _ => rfl) rfl rfl rfl rfl rfl rfl rfl (fun q hq => Zcg hq)
      · exact Ze9 (fun _ _ => rfl) (fun q hq => Za0 hq)
      (repeat' (refine Zab tok (by rfl) ?_; conv => whnf))
      refine ⟨(), trivial, Weak.fam [(jX, some (3, 0, 0))] rfl (fun c hc => ?_) ?_ ?_ ?_ LC_keep2⟩
      · rw [List.mem_singleton.1 (show c ∈ [(3, 0, 0)] from hc)]; exact .inl rfl
      · exact .cons (.bp rfl rfl) (.cons (.bp rfl rfl) (.cons (.bp rfl rfl) (.cons (.imm rfl) .nil)))
      · refine .old rfl rfl (GB.one (.cons (.imm rfl) (.cons (.imm rfl) (.cons (.imm rfl) (.cons .any (.cons (.imm rfl) .nil))))) (fun e => by cases e)) (.old rfl rfl (GB.one (.cons (.bp rfl rfl) .nil) (fun e => by cases e)) (.old rfl rfl (GB.one (.cons (.imm rfl) .nil) (fun _ => rfl)) ?_))
        exact Zck rfl rfl rfl rfl (fun _ => rfl) rfl rfl rfl rfl rfl rfl rfl (fun q hq => Zcg hq)
      · exact Ze9 (fun _ _ => rfl) (fun q hq => Za0 hq)
    · refine Zau (Weak.fam (L := LC) (tl := [(0, .agg [iv (s.stack.getD i default).f, iv (s.stack.getD i default).block, iv (s.stack.getD i default).at_, .rs jT 1 0 (s.stack.getD i default).regs.length, .int .u16 (s.stack.getD i default).fly]), (1, .bp c1 0), (2, .bp c2 0)]) (hl := cL w ++ memL m s) (F := famW s.stack) [] rfl (fun c hc => by cases hc) ?_ ?_ ?_ LC_keep) ?_
      · exact .cons (.agg (.cons (.imm rfl) (.cons (.imm rfl) (.cons (.imm rfl) (.cons (.cc (Zdc (by omega)) rfl (.rs rfl rfl rfl rfl)) (.cons (.imm rfl) .nil)))))) (.cons (.bp rfl rfl) (.cons (.bp rfl rfl) .nil))
      · refine .old rfl rfl (GB.one (.cons (.bp rfl rfl) .nil) (fun e => by cases e)) (.old rfl rfl (GB.one (.cons (.imm rfl) .nil) (fun _ => rfl)) ?_)
        exact Zck rfl rfl rfl rfl (fun _ => rfl) rfl rfl rfl rfl rfl rfl rfl (fun q hq => Zcg hq)
      · exact Ze9 (fun _ _ => rfl) (fun q hq => Za0 hq)
      (repeat' (refine Zab tok (by rfl) ?_; conv => whnf))
      refine ⟨(), trivial, Weak.fam [(jX, some (3, 0, 0))] rfl (fun c hc => ?_) ?_ ?_ ?_ LC_keep2⟩
      · rw [List.mem_singleton.1 (show c ∈ [(3, 0, 0)] from hc)]; exact .inl rfl
      · exact .cons (.bp rfl rfl) (.cons (.bp rfl rfl) (.cons (.bp rfl rfl) (.cons (.imm rfl) .nil)))
      · refine .old rfl rfl (GB.one (.cons (.imm rfl) (.cons (.imm rfl) (.cons (.imm rfl) (.cons .any (.cons (.imm rfl) .nil))))) (fun e => by cases e)) (.old rfl rfl (GB.one (.cons (.bp rfl rfl) .nil) (fun e => by cases e)) (.old rfl rfl (GB.one (.cons (.imm rfl) .nil) (fun _ => rfl)) ?_))
        exact Zck rfl rfl rfl rfl (fun _ => rfl) rfl rfl rfl rfl rfl rfl rfl (fun q hq => Zcg hq)
      · exact Ze9 (fun _ _ => rfl) (fun q hq => Za0 hq)
  rintro _ _ τ hτ
  refine Zau hτ ?_
  (repeat' first | refine Zac ?_ | (refine Zab tok (by rfl) ?_; conv => whnf))
  refine .inr ⟨_, _, _, uG (QH.tnX hP h32 (memX_sub rfl rfl rfl rfl rfl (fun _ => rfl)) rfl (fun q hq => hq)), ?_⟩
  conv => whnf
  (repeat' first | refine Zac ?_ | (refine Zab tok (by rfl) ?_; conv => whnf))
  refine .inl ⟨_, _, _, uG (QC.fc (c_fCatches (padV m (s.stack.getD i default)).2.1 w) rfl), ?_⟩
  conv => whnf
  (repeat' (refine Zaj ?_; conv => whnf))
  refine ⟨_, srcL [], rfl, ?_⟩
  rw [← and_assoc]
  refine ⟨leaveC rfl rfl rfl (Zce rfl rfl rfl) rfl rfl rfl (fun q hq => bigX_fam hq), GV.bool ?_, LC_keep⟩
  exact padV_catch
end Go.Proofs.Ytoelbgjpmpoolaa
namespace Go.Proofs.Ytoelbgjpmpoolaa
open Go Dv
set_option maxRecDepth 10000
set_option linter.unusedSimpArgs false
def idxP (p : Nat → Bool) (n : Nat) : Int := match (List.range n).find? p with
  | some i => i
  | none => -1
theorem idxP_at {p : Nat → Bool} {n i : Nat} (hi : i < n) (h : p i = true) (hl : ∀ j, j < i → p j = false) : idxP p n = i := by
  unfold idxP
  rw [List.find?_range_eq_some.2 ⟨h, List.mem_range.2 hi, fun j hj => by rw [hl j hj]; rfl⟩]
theorem idxP_none {p : Nat → Bool} {n : Nat} (hl : ∀ j, j < n → p j = false) : idxP p n = -1 := by
  unfold idxP
  rw [List.find?_range_eq_none.2 (fun j hj => by rw [hl j hj]; rfl)]
theorem idxP_any {p : Nat → Bool} {n : Nat} : decide (0 ≤ idxP p n) = (List.range n).any p := by
  unfold idxP
  cases e : (List.range n).find? p with
  | none =>
    have : (List.range n).any p = false := by
      rw [Bool.eq_false_iff]; intro h
      obtain ⟨x, hx, hp⟩ := List.any_eq_true.1 h
      have := List.find?_eq_none.1 e x hx
      exact this hp
    rw [this]; rfl
  | some i =>
    have h1 := List.find?_some e
    have h2 := List.mem_of_find?_eq_some e
    rw [List.any_eq_true.2 ⟨i, h2, h1⟩]
    exact decide_eq_true (Int.natCast_nonneg i)
theorem weakC {n : Nat} {tl : List (Nat × AV)} {m : Zai} {s : Mach} {w : Int} {σ : ASt} (ht : TLg (srcL []) σ.h (orH (Zay (cL w ++ memL m s)) (famW s.stack)) σ.tm tl) (k1 : σ.h c1 = some c1B) (k2 : σ.h c2 = some (c2B w)) (h1 : σ.h jB = some (macB m s)) (h2 : σ.h jF = some (Zcx s.stack)) (h3 : σ.h jE = some (evB s.events)) (h4 : σ.h jT = some (regB (topF s).regs)) (h5 : ∀ q, q < s.stack.length - 1 → σ.h (945, 0, q) = some (regB (s.stack.getD q default).regs)) :
    Weak n LC σ (mkF tl (cL w ++ memL m s) (famW s.stack)) := by
  refine Weak.fam [] rfl (fun c hc => by cases hc) ht ?_ ?_ LC_keep
  · refine .old rfl k1 (GB.one (.cons (.bp rfl rfl) .nil) (fun e => by cases e)) (.old rfl k2 (GB.one (.cons (.imm rfl) .nil) (fun _ => rfl)) ?_)
    exact Zck rfl rfl rfl rfl (fun _ => rfl) h1 h2 h3 h4 rfl rfl rfl (fun q hq => Zcg hq)
  · exact Ze9 (fun _ _ => rfl) h5
theorem Zfy {m : Zai} {s : Mach} {w : Int} {d : List Dv.Id} {h : Zao} {q : Nat} (hq : q < s.stack.length - 1) : bigH d (memE (cL w) m s) h (945, 0, q) = some (regB (s.stack.getD q default).regs) := by
  unfold bigH
  rw [show memE (cL w) m s (945, 0, q) = famW s.stack (945, 0, q) from rfl, Za0 hq]
set_option maxHeartbeats 4000000 in
theorem c_IndexFr (m : Zai) (s : Mach) (w : Int) (h32 : s.stack.length ≤ 32) (hF : ∀ i, i < s.stack.length → OkF m (s.stack.getD i default)) (hp : ∀ i, i < s.stack.length → (Zas m (s.stack.getD i default)).fin.kind = 4 → 0 ≤ (Zas m (s.stack.getD i default)).fin.pad ∧ (Zas m (s.stack.getD i default)).fin.pad < (Zdk m (s.stack.getD i default)).blocks.length) :
    HG Try.prog LC 53 (memE (cL w) m s) [.rs jF 5 0 s.stack.length, .fn 45 [.bp c1 0, .bp c2 0]] (iv (idxP (Zbt m s.stack w false) s.stack.length)) (memE (cL w) m s) := by
  refine Za4 tok Try.func53 rfl (by decide +kernel) (Nat.le_of_ble_eq_true rfl) ?_
  have hmx : maxL = 4294967296 := rfl
  have hC : ∀ k (hk : k < s.stack.length) T, Zbg s.stack k = .rs T 1 0 (s.stack.getD k default).regs.length → HG Try.prog LC 45 (memE (cL w) m s) [.agg [iv (s.stack.getD k default).f, iv (s.stack.getD k default).block, iv (s.stack.getD k default).at_, .rs T 1 0 (s.stack.getD k default).regs.length, .int .u16 (s.stack.getD k default).fly], .bp c1 0, .bp c2 0] (.bool (Zbt m s.stack w false k)) (memE (cL w) m s) := fun k hk T e => by
    have := c_mThr1 m s w k hk h32 (hF k hk) (hp k hk)
    unfold frC at this
    rw [e] at this; exact this
  (repeat' first | refine Zac ?_ | (refine Zab tok (by rfl) ?_; conv => whnf) | refine Zak ?_)
  refine Za5 (fun i : Nat => mkF [(0, .rs jF 5 0 s.stack.length), (1, .fn 45 [.bp c1 0, .bp c2 0]), (7, iv s.stack.length), (8, iv i)] (cL w ++ memL m s) (famW s.stack)) (fun i => i ≤ s.stack.length ∧ ∀ j, j < i → Zbt m s.stack w false j = false) (fun i => s.stack.length - i) 0 ⟨Nat.zero_le _, fun j h => absurd h (Nat.not_lt_zero j)⟩ ?_ ?_
  · exact weakC (.cons (.rs rfl rfl rfl rfl) (.cons (.fn (.cons (.bp rfl rfl) (.cons (.bp rfl rfl) .nil))) (.cons (.imm rfl) (.cons (.imm rfl) .nil)))) rfl rfl rfl rfl rfl rfl (fun q hq => Za0 hq)
  rintro i ⟨hi, hno⟩
  have hz : 0 + (i : Int).toNat = i := by simp
  (repeat' ((fail_if_success (show AWp _ _ _ (Code.region 3 _ _) _ _)); (fail_if_success (show AWp _ _ _ (Code.region 7 _ _) _ _)); first | refine Zac ?_ | (refine Zab tok (by rfl) ?_; conv => whnf) | refine Zak ?_ | (refine Zag ?_; conv => whnf) | (refine Za8 ?_; conv => whnf) | refine Zaf rfl (fun hb => ?_) (fun hb => ?_)))
  · have hlt : i < s.stack.length := by simp only [decide_eq_true_eq] at hb; omega
    clear hb
    have hkl : 0 + (i : Int).toNat < s.stack.length := by omega
    by_cases hq : 0 + (i : Int).toNat < s.stack.length - 1
    all_goals ((repeat' first | refine Zac ?_ | (refine Zab tok (by rfl) ?_; conv => whnf) | (refine @And.intro (Zaa _ _ _ _) _ ?_ ?_; rotate_left; (conv => whnf); rotate_right)); all_goals (try ((guard_target = Zaa _ _ _ _); refine Zae ?_; (all_goals (try simp only [Zaa, kzz, kz11, kz12, maxL, Zad] at *)); all_goals omega)))
    · refine fAV (x := Zbg s.stack (0 + (i : Int).toNat)) (y := .rs (945, 0, 0 + (i : Int).toNat) 1 0 (s.stack.getD (0 + (i : Int).toNat) default).regs.length) (Zb9 hq) ?_
      conv => whnf
      skip
      refine .inr ⟨_, _, _, uG (QH.tnE (.head _) (.tail _ (.head _)) rfl rfl rfl rfl (fun _ => rfl) cL_closed cL_pin (hC _ hkl _ (Zb9 hq)) h32 (memE_sub (fun j b e => ?_) rfl rfl rfl rfl (fun _ => rfl)) ?_ (fun q hq => hq)), ?_⟩
      · rcases cL_some e with ⟨rfl, rfl⟩ | ⟨rfl, rfl⟩ <;> rfl
      · show [AV.agg [_, _, _, match kpH (memE (cL w) m s) (945, 0, 0 + (i : Int).toNat) with | some j => AV.rs j 1 0 _ | none => .any, _], _, _] = _
        rw [kpH_is (by rw [Zew rfl, Zdr, Za0 hq]; rfl)]; rfl
      conv => whnf
      (repeat' first | refine Zac ?_ | (refine Zab tok (by rfl) ?_; conv => whnf) | (refine Zag ?_; conv => whnf) | (refine Zaj ?_; conv => whnf) | refine Zaf rfl (fun hb => ?_) (fun hb => ?_))
      · refine ⟨_, srcL [], rfl, ?_⟩
        rw [← and_assoc]
        refine ⟨leaveC rfl rfl rfl (Zce rfl rfl rfl) rfl rfl rfl (fun q hq => Zfy hq), GV.int ?_, LC_keep⟩
        exact (idxP_at hlt (by rw [← hz]; exact hb) hno).symm
      · refine ⟨i + 1, ⟨by omega, fun j hj => ?_⟩, by omega, weakC (.cons (.rs rfl rfl rfl rfl) (.cons (.fn (.cons (.bp rfl rfl) (.cons (.bp rfl rfl) .nil))) (.cons (.imm rfl) (.cons (.int ?_) .nil)))) rfl rfl rfl rfl rfl rfl (fun q hq => Zfy hq)⟩
        · by_cases e : j = i
          · subst e; rw [← hz]; simpa using hb
          · exact hno j (by omega)
        · rw [Zal (by omega) (by omega)]; omega
    · refine fAV (x := Zbg s.stack (0 + (i : Int).toNat)) (y := .rs jT 1 0 (s.stack.getD (0 + (i : Int).toNat) default).regs.length) (Zdc (by omega)) ?_
      conv => whnf
      skip
      refine .inr ⟨_, _, _, uG (QH.tnE (.head _) (.tail _ (.head _)) rfl rfl rfl rfl (fun _ => rfl) cL_closed cL_pin (hC _ hkl _ (Zdc (by omega))) h32 (memE_sub (fun j b e => ?_) rfl rfl rfl rfl (fun _ => rfl)) ?_ (fun q hq => hq)), ?_⟩
      · rcases cL_some e with ⟨rfl, rfl⟩ | ⟨rfl, rfl⟩ <;> rfl
      · show [AV.agg [_, _, _, match kpH (memE (cL w) m s) jT with | some j => AV.rs j 1 0 _ | none => .any, _], _, _] = _
        rw [kpH_is rfl]; rfl
      conv => whnf
      (repeat' first | refine Zac ?_ | (refine Zab tok (by rfl) ?_; conv => whnf) | (refine Zag ?_; conv => whnf) | (refine Zaj ?_; conv => whnf) | refine Zaf rfl (fun hb => ?_) (fun hb => ?_))
      · refine ⟨_, srcL [], rfl, ?_⟩
        rw [← and_assoc]
        refine ⟨leaveC rfl rfl rfl (Zce rfl rfl rfl) rfl rfl rfl (fun q hq => Zfy hq), GV.int ?_, LC_keep⟩
        exact (idxP_at hlt (by rw [← hz]; exact hb) hno).symm
      · refine ⟨i + 1, ⟨by omega, fun j hj => ?_⟩, by omega, weakC (.cons (.rs rfl rfl rfl rfl) (.cons (.fn (.cons (.bp rfl rfl) (.cons (.bp rfl rfl) .nil))) (.cons (.imm rfl) (.cons (.int ?_) .nil)))) rfl rfl rfl rfl rfl rfl (fun q hq => Zfy hq)⟩
        · by_cases e : j = i
          · subst e; rw [← hz]; simpa using hb
          · exact hno j (by omega)
        · rw [Zal (by omega) (by omega)]; omega
  · have hge : ¬ i < s.stack.length := by simp only [decide_eq_false_iff_not] at hb; omega
    (repeat' first | (refine Zab tok (by rfl) ?_; conv => whnf) | (refine Zaj ?_; conv => whnf))
    refine ⟨_, srcL [], rfl, ?_⟩
    rw [← and_assoc]
    refine ⟨leaveC rfl rfl rfl (Zce rfl rfl rfl) rfl rfl rfl (fun q hq => Za0 hq), GV.int ?_, LC_keep⟩
    rw [idxP_none (fun j hj => hno j (by omega))]
theorem c_ContainsFr (m : Zai) (s : Mach) (w : Int) (h32 : s.stack.length ≤ 32) (hF : ∀ i, i < s.stack.length → OkF m (s.stack.getD i default)) (hp : ∀ i, i < s.stack.length → (Zas m (s.stack.getD i default)).fin.kind = 4 → 0 ≤ (Zas m (s.stack.getD i default)).fin.pad ∧ (Zas m (s.stack.getD i default)).fin.pad < (Zdk m (s.stack.getD i default)).blocks.length) :
    HG Try.prog LC 44 (memE (cL w) m s) [.rs jF 5 0 s.stack.length, .fn 45 [.bp c1 0, .bp c2 0]] (.bool ((List.range s.stack.length).any (Zbt m s.stack w false))) (memE (cL w) m s) := by
  refine Za4 tok Try.func44 rfl (by decide +kernel) (Nat.le_of_ble_eq_true rfl) ?_
  have hI := c_IndexFr m s w h32 hF hp
  (repeat' first | refine Zac ?_ | (refine Zab tok (by rfl) ?_; conv => whnf))
  refine .inr ⟨_, _, _, uG (QH.tnE (.head _) (.tail _ (.head _)) rfl rfl rfl rfl (fun _ => rfl) cL_closed cL_pin hI h32 (fun j b e => e) rfl (fun q hq => hq)), ?_⟩
  conv => whnf
  (repeat' (refine Zaj ?_; conv => whnf))
  refine ⟨_, srcL [], rfl, ?_⟩
  rw [← and_assoc]
  exact ⟨leaveC rfl rfl rfl (Zce rfl rfl rfl) rfl rfl rfl (fun q hq => Zfy hq), GV.bool idxP_any, LC_keep⟩
end Go.Proofs.Ytoelbgjpmpoolaa
namespace Go.Proofs.Ytoelbgjpmpoolaa
open Go Dv
set_option maxRecDepth 10000
set_option linter.unusedSimpArgs false
theorem weakCW {n : Nat} {tl : List (Nat × AV)} {m : Zai} {s : Mach} {w : Int} {σ : ASt} (ht : TLg (srcL []) σ.h (orH (Zay (cL w ++ memL m s)) (famW s.stack)) σ.tm tl) (k1 : σ.h c1 = some c1B) (k2 : σ.h c2 = some (c2B w)) (h1 : σ.h jB = some (macB m s)) (h2 : σ.h jF = some (Zcx s.stack)) (h3 : σ.h jE = some (evB s.events)) (h4 : σ.h jT = some (regB (topF s).regs)) (h5 : ∀ q, q < s.stack.length - 1 → σ.h (945, 0, q) = some (regB (s.stack.getD q default).regs)) :
    Weak n LW σ (mkF tl (cL w ++ memL m s) (famW s.stack)) := by
  refine Weak.fam [] rfl (fun c hc => by cases hc) ht ?_ ?_ LW_keepL
  · refine .old rfl k1 (GB.one (.cons (.bp rfl rfl) .nil) (fun e => by cases e)) (.old rfl k2 (GB.one (.cons (.imm rfl) .nil) (fun _ => rfl)) ?_)
    exact Zck rfl rfl rfl rfl (fun _ => rfl) h1 h2 h3 h4 rfl rfl rfl (fun q hq => Zcg hq)
  · exact Ze9 (fun _ _ => rfl) h5
theorem lendOne {l : List Int} : ∀ j b, oneR l j = some b → j = r0 ∧ b = regB l := fun j b e => by
  have := Zcz (i := j) (by rw [e]; rfl)
  subst this
  exact ⟨rfl, (Option.some.inj e).symm⟩
theorem LW_keepS {tl : List (Dv.Id × Zam)} {F : Zao} {S : List (Dv.Id × Option Dv.Id)} (hB : (orH (Zay tl) F jB).isSome = true ∧ srcL S jB = some jB := by exact ⟨rfl, rfl⟩) (hF : (orH (Zay tl) F jF).isSome = true ∧ srcL S jF = some jF := by exact ⟨rfl, rfl⟩) : ∀ i ∈ LW, Zeb i = true → (orH (Zay tl) F i).isSome = true ∧ srcL S i = some i := fun i hi _ => by
  rcases List.mem_cons.1 hi with rfl | hi
  · exact hB
  · rw [List.mem_singleton.1 hi]; exact hF
set_option maxHeartbeats 4000000 in
theorem c_mThr (m : Zai) (s : Mach) (w : Int) (hr : Zbj m = true) (h : 0 < s.stack.length) (h32 : s.stack.length ≤ 32) (hF : ∀ i, i < s.stack.length → OkF m (s.stack.getD i default)) :
    HG Try.prog LW 32 (mem m s) [.bp jB 0, .int .u16 w] (.tup []) (mem m (Zbc m s w)) := by
  refine Za4 tok Try.func32 rfl (by decide +kernel) (Nat.le_of_ble_eq_true rfl) ?_
  have hmx : maxL = 4294967296 := rfl
  have hpl := Zcr (s := s)
  have hgen : ∃ p, popM s = p := ⟨_, rfl⟩
  obtain ⟨p, hp⟩ := hgen
  have hP := c_mPop m s h (by omega)
  have hF2 : ∀ i, i < p.stack.length → OkF m (p.stack.getD i default) := fun i hi => by
    rw [← hp] at hi ⊢
    rw [show (popM s).stack.getD i default = s.stack.getD i default from Zbv _ (by omega)]
    exact hF i (by omega)
  have hpp : ∀ i, i < p.stack.length → (Zas m (p.stack.getD i default)).fin.kind = 4 → 0 ≤ (Zas m (p.stack.getD i default)).fin.pad ∧ (Zas m (p.stack.getD i default)).fin.pad < (Zdk m (p.stack.getD i default)).blocks.length := fun i hi hk => (okF_pad hr (hF2 i hi) hk).1
  have hT0 : Zbc m s w = if (List.range p.stack.length).any (Zbt m p.stack w false) = true then
      Zbu (Zdf p (Zer (Zbt m p.stack w true) (p.stack.length - 1) + 1)) (landF m (p.stack.getD (Zer (Zbt m p.stack w true) (p.stack.length - 1)) default) (Zas m (p.stack.getD (Zer (Zbt m p.stack w true) (p.stack.length - 1)) default)).fin.pad w)
      else endM p 2 w := by rw [← hp]; rfl
  rw [hp] at hP hpl
  have hC := c_ContainsFr m p w (by omega) hF2 hpp
  rw [hT0]
  (repeat' ((fail_if_success (show AWp _ _ _ (Code.region 1 _ _) _ _)); first | refine Zac ?_ | (refine Zab tok (by rfl) ?_; conv => whnf)))
  refine Zau (Weak.fam (L := LW) (tl := [(2, .bp c1 0), (3, .bp c2 0)]) (hl := cL w ++ memL m s) (F := famW s.stack) [(c1, some (2, 0, 0)), (c2, some (3, 0, 0))] rfl (fun c hc => ?_) ?_ ?_ ?_ LW_keepS) ?_
  · rcases List.mem_cons.1 (show c ∈ [(2, 0, 0), (3, 0, 0)] from hc) with rfl | hc
    · exact .inl rfl
    · rw [List.mem_singleton.1 hc]; exact .inl rfl
  · exact .cons (.bp rfl rfl) (.cons (.bp rfl rfl) .nil)
  · refine .old rfl rfl (GB.one (.cons (.bp rfl rfl) .nil) (fun e => by cases e)) (.old rfl rfl (GB.one (.cons (.imm rfl) .nil) (fun _ => rfl)) ?_)
    exact Zck rfl rfl rfl rfl (fun _ => rfl) rfl rfl rfl rfl rfl rfl rfl (fun q hq => Zcg hq)
  · exact Ze9 (fun _ _ => rfl) (fun q hq => Za0 hq)
  (repeat' (refine Zab tok (by rfl) ?_; conv => whnf))
  refine .inr ⟨_, _, _, uG (QH.tnM (by simp) (by simp) hP (by omega) (Zaz rfl rfl rfl rfl (fun _ => rfl)) rfl (fun q hq => Zan hq)), ?_⟩
  conv => whnf
  (repeat' ((fail_if_success (show AWp _ _ _ (Code.region 2 _ _) _ _)); refine Zac ?_))
  refine Zau (weakCW (tl := [(2, .bp c1 0), (3, .bp c2 0)]) (.cons (.bp rfl rfl) (.cons (.bp rfl rfl) .nil)) rfl rfl rfl rfl rfl rfl (fun q hq => Za9 hq)) ?_
  (repeat' (refine Zab tok (by rfl) ?_; conv => whnf))
  refine .inr ⟨_, _, _, uG (QH.tnE (.head _) (.tail _ (.head _)) rfl rfl rfl rfl (fun _ => rfl) cL_closed cL_pin hC (by omega) (fun j b e => e) rfl (fun q hq => hq)), ?_⟩
  conv => whnf
  (repeat' ((fail_if_success (show AWp _ _ _ (Code.region 4 _ _) _ _)); (fail_if_success (show AWp _ _ _ (Code.region 5 _ _) _ _)); first | refine Zac ?_ | (refine Zab tok (by rfl) ?_; conv => whnf) | refine Zak ?_ | (refine Zag ?_; conv => whnf) | refine Zaf rfl (fun hb => ?_) (fun hb => ?_)))
  · have hn : ¬ (List.range p.stack.length).any (Zbt m p.stack w false) = true := by simpa using hb
    rw [if_neg hn]
    refine Zau (weakCW (tl := [(2, .bp c1 0), (3, .bp c2 0)]) (.cons (.bp rfl rfl) (.cons (.bp rfl rfl) .nil)) rfl rfl rfl rfl rfl rfl (fun q hq => Zfy hq)) ?_
    (repeat' (refine Zab tok (by rfl) ?_; conv => whnf))
    refine .inr ⟨_, _, _, uG (QH.tnM (by simp) (by simp) (c_mEnd m p 2 w) (by omega) (Zaz rfl rfl rfl rfl (fun q => rfl)) rfl (fun q hq => Zan hq)), ?_⟩
    conv => whnf
    (repeat' (refine Zaj ?_; conv => whnf))
    refine ⟨_, srcL [], rfl, ?_⟩
    rw [← and_assoc]
    exact ⟨Zdd (s := endM p 2 w) rfl rfl rfl (Zce rfl rfl rfl) rfl rfl rfl (fun q hq => Za9 hq), .tup .nil, Zcq⟩
  have hany : (List.range p.stack.length).any (Zbt m p.stack w false) = true := by simpa using hb
  clear hb
  rw [if_pos hany]
  obtain ⟨i0, hi0, hci⟩ := List.any_eq_true.1 hany
  rw [List.mem_range] at hi0
  have hex : ∃ j, j ≤ p.stack.length - 1 ∧ Zbt m p.stack w true j = true := ⟨i0, by omega, catch_more hci⟩
  have hgen : ∃ K, Zer (Zbt m p.stack w true) (p.stack.length - 1) = K := ⟨_, rfl⟩
  obtain ⟨K, hK⟩ := hgen
  obtain ⟨hK1, hK2⟩ := Zfc hex
  rw [hK] at hK1 hK2 ⊢
  have hKl : K < p.stack.length := by omega
  have htl : ∀ n, n ≤ p.stack.length - 1 → (Zdf p (n + 1)).stack.length = n + 1 := fun n hn => by simp [Zdf]; omega
  have htk : ∀ n, n ≤ p.stack.length - 1 → (Zdf p (n + 1)).stack.getD n default = p.stack.getD n default := fun n hn => Zbv _ (by omega)
  have hfull : Zdf p (p.stack.length - 1 + 1) = p := by
    unfold Zdf
    rw [show p.stack.length - 1 + 1 = p.stack.length by omega, List.take_length]
  refine Za5 (fun n : Nat => mkF [(2, .bp c1 0), (3, .bp c2 0)] (cL w ++ memL m (Zdf p (n + 1))) (famW (Zdf p (n + 1)).stack)) (fun n => n ≤ p.stack.length - 1 ∧ Zer (Zbt m p.stack w true) n = K ∧ ∃ j, j ≤ n ∧ Zbt m p.stack w true j = true) (fun n => n) (p.stack.length - 1) ⟨Nat.le_refl _, hK, hex⟩ ?_ ?_
  · rw [hfull]
    exact weakCW (.cons (.bp rfl rfl) (.cons (.bp rfl rfl) .nil)) rfl rfl rfl rfl rfl rfl (fun q hq => Zfy hq)
  rintro n ⟨hn1, hn2, hn3⟩
  have hgen : ∃ u, Zdf p (n + 1) = u := ⟨_, rfl⟩
  obtain ⟨u, hu⟩ := hgen
  have hul := htl n hn1
  have hut := htk n hn1
  rw [hu] at hul hut ⊢
  have hu1 : u.stack.length - 1 = n := by omega
  have hPd := c_mPad m u n (by omega) (by omega) (by rw [hut]; exact hF2 n (by omega)) (by rw [hut]; exact hpp n (by omega))
  rw [hut] at hPd
  have hTp := Zfe m u (by omega) (by omega)
  rw [hu1] at hTp
  (repeat' first | refine Zac ?_ | (refine Zab tok (by rfl) ?_; conv => whnf) | refine Zak ?_)
  refine .inr ⟨_, _, _, uG (QH.tnM (by simp) (by simp) hTp (by omega) (Zaz rfl rfl rfl rfl (fun q => rfl)) rfl (fun q hq => Zan hq)), ?_⟩
  conv => whnf
  (repeat' first | refine Zac ?_ | (refine Zab tok (by rfl) ?_; conv => whnf))
  refine .inr ⟨_, _, _, uG (QH.tnM (by simp) (by simp) hPd (by omega) (Zaz rfl rfl rfl rfl (fun q => Zbn (fun hq => Zan (by omega)))) rfl (fun q hq => (Zbn (fun hq => Zan (by omega))).trans (Zan hq))), ?_⟩
  conv => whnf
  (repeat' first | refine Zac ?_ | (refine Zab tok (by rfl) ?_; conv => whnf))
  refine .inl ⟨_, _, _, uG (QC.fc (c_fCatches (padV m (p.stack.getD n default)).2.1 w) rfl), ?_⟩
  conv => whnf
  (repeat' ((fail_if_success (show AWp _ _ _ (Code.region 8 _ _) _ _)); (fail_if_success (show AWp _ _ _ (Code.region 9 _ _) _ _)); first | refine Zac ?_ | (refine Zag ?_; conv => whnf) | refine Zaf rfl (fun hb => ?_) (fun hb => ?_)))
  · have hyes : Zbt m p.stack w true n = true := by
      show Zex m (p.stack.getD n default) w true = true
      rw [← padV_catch2]
      simpa using hb
    clear hb
    have hnK : n = K := by rw [← hn2, downK_yes hyes]
    subst hnK
    rw [hu]
    have htop : topF u = p.stack.getD n default := by unfold topF; rw [hu1]; exact hut
    have hk4 : (Zas m (p.stack.getD n default)).fin.kind = 4 := by
      unfold Zbt Zex at hyes
      simp only [Bool.and_eq_true, decide_eq_true_eq] at hyes
      exact hyes.2.1
    have hkE : endB m (p.stack.getD n default) = true := by
      unfold Zbt Zex at hyes
      simp only [Bool.and_eq_true, decide_eq_true_eq] at hyes
      exact hyes.1
    have hpv : (padV m (p.stack.getD n default)).1 = (Zas m (p.stack.getD n default)).fin.pad := by
      unfold padV; rw [if_pos ⟨hkE, hk4⟩]
    obtain ⟨⟨g1, g2⟩, g3, g4, g5⟩ := okF_pad hr (hF2 n hKl) hk4
    have hL := c_fLand m (p.stack.getD n default) (Zas m (p.stack.getD n default)).fin.pad w hr (hF2 n hKl) g1 g2 g3 ⟨g4, g5⟩
    rw [← hpv, ← htop] at hL ⊢
    have hgen : ∃ k, (padV m (topF u)).1 = k := ⟨_, rfl⟩
    obtain ⟨k, hk⟩ := hgen
    rw [hk] at hL ⊢
    have hgen : ∃ g, landF m (topF u) k w = g := ⟨_, rfl⟩
    obtain ⟨g, hg⟩ := hgen
    rw [hg] at hL ⊢
    have hle : n < u.stack.length := by omega
    have hrt : Zbg u.stack n = .rs jT 1 0 (topF u).regs.length := Zbe (by omega) hu1.symm
    have hut2 : u.stack.getD n default = topF u := by rw [htop]; exact hut
    refine Zau (weakCW (tl := [(2, .bp c1 0), (3, .bp c2 0), (5, .rp jF 5 n 0), (6, iv k)]) (.cons (.bp rfl rfl) (.cons (.bp rfl rfl) (.cons (.rp rfl rfl rfl) (.cons (.int (by rw [← hk, htop])) .nil)))) rfl rfl rfl rfl rfl rfl (fun q hq => Za9 hq)) ?_
    refine Zdx tok mix (by rfl) [0, 1, 2, 3, 4, 5, 6, 8, 9, 14] 30 (by rfl) (by rfl) (by rfl) ?_
    conv => whnf
    (repeat' first
      | (refine fAV (x := Zbg u.stack n) (y := .rs jT 1 0 (topF u).regs.length) hrt ?_; (conv => whnf))
      | (refine @And.intro (Zaa _ _ _ _) _ ?_ ?_; rotate_left; (conv => whnf); rotate_right)
      | (guard_target = And _ _; refine @And.intro (gOp _ _ _ _ _ _ _ _ _) _ (by (conv => whnf); first | exact ⟨rfl, rfl⟩ | (refine fAV (x := Zbg u.stack n) (y := .rs jT 1 0 (topF u).regs.length) hrt ?_; (conv => whnf); exact ⟨rfl, rfl⟩)) ?_; conv => whnf)
      | (guard_target = And _ _; refine And.intro ?_ ?_ <;> (conv => whnf)))
    all_goals (try ((guard_target = Zaa _ _ _ _); refine Zae ?_; (all_goals (try simp only [Zaa, kzz, kz11, kz12, maxL, Zad] at *)); all_goals omega))
    all_goals (try (show AV.agg [_, _, _, Zbg u.stack n, _] = AV.agg [_, _, _, .rs jT 1 0 (topF u).regs.length, _]; rw [hrt]; done))
    have hut3 : (u.stack.getD n default) = (u.stack.getD (u.stack.length - 1) default) := by rw [hu1]
    have hL' : HF Try.prog 48 [.agg (Zbf m), .agg (Zbd (u.stack.getD n default)), iv k, .int .u16 w] (.tup [.agg (frO g (.rs r0 1 0 g.regs.length)), iv 0]) (oneR g.regs) := by rw [hut2]; exact hL
    refine .inr ⟨_, _, _, uG (QH.lendF (rd := [jT]) hL' (.cons (.imm rfl) (.cons (.agg (.cons (.imm rfl) (.cons (.imm rfl) (.cons (.imm rfl) (.cons (.row rfl (.head _) rfl (by rw [hut2]) (fun q hq => by rw [hut2])) (.cons (.imm rfl) .nil)))))) (.cons (.imm rfl) (.cons (.imm rfl) .nil)))) (fun i hi => by rw [Zcz hi]; rfl) rfl (fun j b e => by
      obtain ⟨rfl, rfl⟩ := lendOne j b e
      exact fun i hi => rfl)), ?_⟩
    conv => whnf
    (repeat' first
      | (refine fAV (x := Zbg u.stack n) (y := .rs jT 1 0 (topF u).regs.length) hrt ?_; (conv => whnf))
      | (refine @And.intro (Zaa _ _ _ _) _ ?_ ?_; rotate_left; (conv => whnf); rotate_right)
      | (guard_target = And _ _; refine @And.intro (gOp _ _ _ _ _ _ _ _ _) _ (by (conv => whnf); first | exact ⟨rfl, rfl⟩ | (refine fAV (x := Zbg u.stack n) (y := .rs jT 1 0 (topF u).regs.length) hrt ?_; (conv => whnf); exact ⟨rfl, rfl⟩)) ?_; conv => whnf)
      | (guard_target = And _ _; refine And.intro ?_ ?_ <;> (conv => whnf)))
    all_goals (try ((guard_target = Zaa _ _ _ _); refine Zae ?_; (all_goals (try simp only [Zaa, kzz, kz11, kz12, maxL, Zad] at *)); all_goals omega))
    all_goals (try (show AV.agg [_, _, _, Zbg u.stack n, _] = AV.agg [_, _, _, .rs jT 1 0 (topF u).regs.length, _]; rw [hrt]; done))
    all_goals
      (repeat' (refine Zaj ?_; conv => whnf))
      refine ⟨_, srcT jE r0, rfl, ?_⟩
      rw [← and_assoc]
      refine ⟨leaveG (s := u) (g := g) (n' := u.stack.length) (by omega) rfl rfl (.inr (.inl rfl)) (.inl rfl) rfl ?_ rfl (Nat.le_refl _) (fun q hq => ?_) ?_ rfl (Zd4 _) rfl (Zbs _) (fun q hq => ?_), .tup .nil, keepT⟩
      · exact Zd7 (s := Zbu u g) (Zc1 (s := u) (by omega)).symm rfl rfl rfl rfl
      · exact Zcu (by omega)
      · rw [hu1]; exact Zdh
      · refine Zes (d := []) (u := oneR g.regs) rfl rfl ?_
        exact Za0 hq
  · have hno : ¬ Zbt m p.stack w true n = true := by
      show ¬ Zex m (p.stack.getD n default) w true = true
      rw [← padV_catch2]
      simpa using hb
    clear hb
    obtain ⟨e1, e2⟩ := downK_no hn3 hno
    have hPu := c_mPop m u (by omega) (by omega)
    have hpu : popM u = Zdf p (n - 1 + 1) := by
      rw [← hu]
      unfold popM Zdf
      simp only [List.length_take, List.take_take]
      congr 2
      omega
    rw [hpu] at hPu
    refine Zau (weakCW (tl := [(2, .bp c1 0), (3, .bp c2 0)]) (.cons (.bp rfl rfl) (.cons (.bp rfl rfl) .nil)) rfl rfl rfl rfl rfl rfl (fun q hq => Za9 hq)) ?_
    (repeat' (refine Zab tok (by rfl) ?_; conv => whnf))
    refine .inr ⟨_, _, _, uG (QH.tnM (by simp) (by simp) hPu (by omega) (Zaz rfl rfl rfl rfl (fun q => rfl)) rfl (fun q hq => Zan hq)), ?_⟩
    conv => whnf
    skip
    refine ⟨n - 1, ⟨by omega, by rw [← e2]; exact hn2, ?_⟩, by omega, weakCW (.cons (.bp rfl rfl) (.cons (.bp rfl rfl) .nil)) rfl rfl rfl rfl rfl rfl (fun q hq => Za9 hq)⟩
    obtain ⟨j, j1, j2⟩ := hn3
    refine ⟨j, ?_, j2⟩
    rcases Nat.lt_or_ge j n with h3 | h3
    · omega
    · have : j = n := by omega
      subst this; exact absurd j2 hno
end Go.Proofs.Ytoelbgjpmpoolaa
namespace Go.Proofs.Ytoelbgjpmpoolaa
open Go Dv
set_option maxRecDepth 10000
set_option linter.unusedSimpArgs false
theorem weakW {n : Nat} {tl : List (Nat × AV)} {el : List (Dv.Id × Zam)} {m : Zai} {s : Mach} {σ : ASt} {L : List Dv.Id} (ht : TLg (srcL []) σ.h (orH (Zay (el ++ memL m s)) (famW s.stack)) σ.tm tl) (he : HLs (srcL []) σ.h (orH (Zay (el ++ memL m s)) (famW s.stack)) (el ++ memL m s)) (h5 : ∀ q, q < s.stack.length - 1 → σ.h (945, 0, q) = some (regB (s.stack.getD q default).regs))
    (hL : ∀ i ∈ L, Zeb i = true → (orH (Zay (el ++ memL m s)) (famW s.stack) i).isSome = true ∧ srcL [] i = some i) : Weak n L σ (mkF tl (el ++ memL m s) (famW s.stack)) := by
  exact Weak.fam [] rfl (fun c hc => by cases hc) ht he (Ze9 (fun _ _ => rfl) h5) hL
set_option maxHeartbeats 4000000 in
theorem c_mStepT (m : Zai) (s s1 : Mach) (f : Zaw) (hf : topF s = f) (h : 0 < s.stack.length) (h32 : s.stack.length ≤ 32) (hF : OkF m f) (he : endB m f = false) (hl : s1.stack.length = s.stack.length) (hat0 : 0 ≤ (topF s1).at_) (hat : (topF s1).at_ < 1000000)
    (hI : HG Try.prog LW 28 (mem m s) [.bp jB 0, .rp jF 5 (s.stack.length - 1) 0, .agg (Zbi ((Zas m f).ins.getD f.at_.toNat default))] (.bool true) (mem m s1)) :
    HG Try.prog [jB] 17 (mem m s) [.bp jB 0] (.tup []) (mem m (Zbu s1 (goOn (topF s1)))) := by
  refine Za4 tok Try.func17 rfl (by decide +kernel) (Nat.le_of_ble_eq_true rfl) ?_
  have hmx : maxL = 4294967296 := rfl
  have hft : s.stack.getD (s.stack.length - 1) default = f := hf
  have hT := Zfe m s h (by omega)
  have hB := Zc7 m s (s.stack.length - 1) (by omega) (by rw [hft]; exact hF)
  rw [hft] at hB
  have hE : ¬ f.at_ = (Zas m f).ins.length := fun e => by
    have : endB m f = true := decide_eq_true e
    rw [he] at this; cases this
  have hgen : ∃ b, Zas m f = b := ⟨_, rfl⟩
  obtain ⟨b, hbe⟩ := hgen
  have a0 := hF.a0
  have a1 := hF.a1
  rw [hbe] at hB hE a1 hI
  (repeat' ((fail_if_success (show AWp _ _ _ (Code.region 0 _ _) _ _)); refine Zac ?_))
  (repeat' (refine Zab tok (by rfl) ?_; conv => whnf))
  refine .inr ⟨_, _, _, uG (QH.tnM (by simp) (by simp) hT h32 (Zaz rfl rfl rfl rfl (fun _ => rfl)) rfl (fun q hq => Zan hq)), ?_⟩
  conv => whnf
  (repeat' ((fail_if_success (show AWp _ _ _ (Code.region 1 _ _) _ _)); refine Zac ?_))
  (repeat' (refine Zab tok (by rfl) ?_; conv => whnf))
  refine .inr ⟨_, _, _, uG (QH.tnM (by simp) (by simp) hB h32 (Zaz rfl rfl rfl rfl (fun _ => Zbn (fun hq => Zan (by omega)))) rfl (fun q hq => (Zbn (fun hq => Zan (by omega))).trans (Zan hq))), ?_⟩
  conv => whnf
  ((repeat' ((fail_if_success (show AWp _ _ _ (Code.region 3 _ _) _ _)); (fail_if_success (show AWp _ _ _ (Code.region 5 _ _) _ _)); first | refine Zac ?_ | (refine Zap tok mix (by rfl) ?_; conv => whnf) | (refine Zag ?_; conv => whnf) | refine Zaf rfl (fun hb => ?_) (fun hb => ?_) | (refine @And.intro (Zaa _ _ _ _) _ ?_ ?_; rotate_left; (conv => whnf); rotate_right))); all_goals (try ((guard_target = Zaa _ _ _ _); refine Zae ?_; (all_goals (try simp only [Zaa, kzz, kz11, kz12, maxL, Zad] at *)); all_goals omega)))
  · clear hb
    refine Zau (weakW (m := m) (s := s) (L := [jB]) (tl := [(0, .bp jB 0), (2, .rp jF 5 (s.stack.length - 1) 0), (3, .bp (3, 0, 0) 0)]) (el := [((3, 0, 0), Za6 (Zbl b))]) ?_ ?_ (fun q hq => Za9 hq) (fun i hi _ => by rw [List.mem_singleton.1 hi]; exact ⟨rfl, rfl⟩)) ?_
    · exact .cons (.bp rfl rfl) (.cons (.rp rfl rfl rfl) (.cons (.bp rfl rfl) .nil))
    · exact .old rfl rfl (GB.one (GVs.imm rfl) (fun _ => rfl)) (Zck rfl rfl rfl rfl (fun _ => rfl) rfl rfl rfl rfl rfl rfl rfl (fun q hq => Zcg hq))
    have hle : s.stack.length - 1 < s.stack.length := by omega
    have hat1 : (s.stack.getD (s.stack.length - 1) default).at_.toNat < b.ins.length := by rw [hft]; omega
    have hat0' : 0 ≤ (s.stack.getD (s.stack.length - 1) default).at_ := by rw [hft]; omega
    have hI' : HG Try.prog LW 28 (mem m s) [.bp jB 0, .rp jF 5 (s.stack.length - 1) 0, .agg (Zbi (b.ins.getD (s.stack.getD (s.stack.length - 1) default).at_.toNat default))] (.bool true) (mem m s1) := by rw [hft]; exact hI
    have hle1 : s.stack.length - 1 < s1.stack.length := by omega
    have htp : s1.stack.getD (s.stack.length - 1) default = topF s1 := by rw [← hl]; rfl
    have hatt : 0 ≤ (s1.stack.getD (s.stack.length - 1) default).at_ ∧ (s1.stack.getD (s.stack.length - 1) default).at_ < 1000000 := by rw [htp]; exact ⟨hat0, hat⟩
    ((repeat' first | (refine Zap tok mix (by rfl) ?_; conv => whnf) | (refine @And.intro (Zaa _ _ _ _) _ ?_ ?_; rotate_left; (conv => whnf); rotate_right)); all_goals (try ((guard_target = Zaa _ _ _ _); refine Zae ?_; (all_goals (try simp only [Zaa, kzz, kz11, kz12, maxL, Zad] at *)); all_goals omega)))
    refine .inr ⟨_, _, _, uG (QH.tnM (by simp) (by simp) hI' h32 (Zaz rfl rfl rfl rfl (fun _ => rfl)) rfl (fun q hq => Zan hq)), ?_⟩
    conv => whnf
    (repeat' ((fail_if_success (show AWp _ _ _ (Code.region 4 _ _) _ _)); first | (refine Zag ?_; conv => whnf) | (refine Zaj ?_; conv => whnf) | refine Zaf rfl (fun hb => ?_) (fun hb => ?_)))
    all_goals (try (exfalso; cases hb; done))
    clear hb
    ((repeat' first | (refine Zab tok (by rfl) ?_; conv => whnf) | (refine @And.intro (Zaa _ _ _ _) _ ?_ ?_; rotate_left; (conv => whnf); rotate_right)); all_goals (try ((guard_target = Zaa _ _ _ _); refine Zae ?_; (all_goals (try simp only [Zaa, kzz, kz11, kz12, maxL, Zad] at *)); all_goals omega)))
    refine fAV (x := Zbg s1.stack (s.stack.length - 1)) (y := .rs jT 1 0 (topF s1).regs.length) (Zbe (by omega) (by rw [hl])) ?_
    conv => whnf
    (repeat' (refine Zaj ?_; conv => whnf))
    refine ⟨_, srcT jE jT, rfl, ?_⟩
    rw [← and_assoc]
    refine ⟨leaveG (s := s1) (g := goOn (topF s1)) (n' := s1.stack.length) (by omega) rfl rfl (.inr (.inl rfl)) (.inr (.inr rfl)) rfl ?_ rfl (Nat.le_refl _) (fun q hq => ?_) ?_ rfl (Zd4 _) rfl (Zbs _) (fun q hq => Za9 (s := s1) hq), .tup .nil, fun i hi hp => keepT i (by rw [List.mem_singleton.1 hi]; exact .head _) hp⟩
    · exact Zd7 (s := Zbu s1 (goOn (topF s1))) (Zc1 (s := s1) (by omega)).symm rfl rfl rfl rfl
    · exact Zcu (by omega)
    · rw [hl]
      refine Zdh.trans ?_
      rw [htp, Zal (by omega) (by omega)]
      rfl
  · exfalso
    rw [hft] at hb
    simp only [decide_eq_false_iff_not] at hb
    omega
end Go.Proofs.Ytoelbgjpmpoolaa
namespace Go.Proofs.Ytoelbgjpmpoolaa
open Go Dv
set_option maxRecDepth 10000
set_option linter.unusedSimpArgs false
theorem renN' {m : Zai} {s s' : Mach} {f : FuncId} {args args' : List AV} {r : AV} (h : HG Try.prog [jB] f (mem m s) args r (mem m s')) (ha : GVs (srcL [(jF, some jN)]) (memN m s) (mem m s) args' args) : HG Try.prog [jB] f (memN m s) args' r (mem m s') := by
  refine h.ren (srcL [(jF, some jN)]) (Zeu rfl (fun i hi => ?_)) (fun j b e => ?_) ha (fun i hi _ => by rw [List.mem_singleton.1 hi]; exact ⟨rfl, rfl⟩)
  · rw [List.mem_singleton.1 (show i ∈ [jN] from hi)]; exact .inl rfl
  · rcases Zb4 e with ⟨rfl, rfl⟩ | ⟨rfl, rfl⟩ | ⟨rfl, rfl⟩ | ⟨rfl, rfl⟩ | ⟨q, rfl, hq2, rfl⟩
    · exact HOk.mk rfl rfl (GB.one (cells22 rfl rfl rfl rfl) (fun e => by cases e))
    · exact HOk.mk rfl rfl (GB_fr (fun _ _ => rfl) rfl (fun q hq => by rw [Zdr, Za0 hq]; rfl) rfl)
    · exact HOk.mk rfl rfl (Zd4 _)
    · exact HOk.mk rfl rfl (Zbs _)
    · exact HOk.mk rfl (Za0 (l := s.stack) hq2) (Zbs _)
set_option maxHeartbeats 4000000 in
theorem c_mStepF (m : Zai) (s s1 : Mach) (f : Zaw) (hf : topF s = f) (h : 0 < s.stack.length) (h32 : s.stack.length ≤ 32) (hF : OkF m f) (he : endB m f = false)
    (hI : HG Try.prog LW 28 (mem m s) [.bp jB 0, .rp jF 5 (s.stack.length - 1) 0, .agg (Zbi ((Zas m f).ins.getD f.at_.toNat default))] (.bool false) (mem m s1)) :
    HG Try.prog [jB] 17 (mem m s) [.bp jB 0] (.tup []) (mem m s1) := by
  refine Za4 tok Try.func17 rfl (by decide +kernel) (Nat.le_of_ble_eq_true rfl) ?_
  have hmx : maxL = 4294967296 := rfl
  have hft : s.stack.getD (s.stack.length - 1) default = f := hf
  have hT := Zfe m s h (by omega)
  have hB := Zc7 m s (s.stack.length - 1) (by omega) (by rw [hft]; exact hF)
  rw [hft] at hB
  have hE : ¬ f.at_ = (Zas m f).ins.length := fun e => by
    have : endB m f = true := decide_eq_true e
    rw [he] at this; cases this
  have hgen : ∃ b, Zas m f = b := ⟨_, rfl⟩
  obtain ⟨b, hbe⟩ := hgen
  have a0 := hF.a0
  have a1 := hF.a1
  rw [hbe] at hB hE a1 hI
  (repeat' ((fail_if_success (show AWp _ _ _ (Code.region 0 _ _) _ _)); refine Zac ?_))
  (repeat' (refine Zab tok (by rfl) ?_; conv => whnf))
  refine .inr ⟨_, _, _, uG (QH.tnM (by simp) (by simp) hT h32 (Zaz rfl rfl rfl rfl (fun _ => rfl)) rfl (fun q hq => Zan hq)), ?_⟩
  conv => whnf
  (repeat' ((fail_if_success (show AWp _ _ _ (Code.region 1 _ _) _ _)); refine Zac ?_))
  (repeat' (refine Zab tok (by rfl) ?_; conv => whnf))
  refine .inr ⟨_, _, _, uG (QH.tnM (by simp) (by simp) hB h32 (Zaz rfl rfl rfl rfl (fun _ => Zbn (fun hq => Zan (by omega)))) rfl (fun q hq => (Zbn (fun hq => Zan (by omega))).trans (Zan hq))), ?_⟩
  conv => whnf
  ((repeat' ((fail_if_success (show AWp _ _ _ (Code.region 3 _ _) _ _)); (fail_if_success (show AWp _ _ _ (Code.region 5 _ _) _ _)); first | refine Zac ?_ | (refine Zap tok mix (by rfl) ?_; conv => whnf) | (refine Zag ?_; conv => whnf) | refine Zaf rfl (fun hb => ?_) (fun hb => ?_) | (refine @And.intro (Zaa _ _ _ _) _ ?_ ?_; rotate_left; (conv => whnf); rotate_right))); all_goals (try ((guard_target = Zaa _ _ _ _); refine Zae ?_; (all_goals (try simp only [Zaa, kzz, kz11, kz12, maxL, Zad] at *)); all_goals omega)))
  · clear hb
    refine Zau (weakW (m := m) (s := s) (L := [jB]) (tl := [(0, .bp jB 0), (2, .rp jF 5 (s.stack.length - 1) 0), (3, .bp (3, 0, 0) 0)]) (el := [((3, 0, 0), Za6 (Zbl b))]) ?_ ?_ (fun q hq => Za9 hq) (fun i hi _ => by rw [List.mem_singleton.1 hi]; exact ⟨rfl, rfl⟩)) ?_
    · exact .cons (.bp rfl rfl) (.cons (.rp rfl rfl rfl) (.cons (.bp rfl rfl) .nil))
    · exact .old rfl rfl (GB.one (GVs.imm rfl) (fun _ => rfl)) (Zck rfl rfl rfl rfl (fun _ => rfl) rfl rfl rfl rfl rfl rfl rfl (fun q hq => Zcg hq))
    have hle : s.stack.length - 1 < s.stack.length := by omega
    have hat1 : (s.stack.getD (s.stack.length - 1) default).at_.toNat < b.ins.length := by rw [hft]; omega
    have hat0' : 0 ≤ (s.stack.getD (s.stack.length - 1) default).at_ := by rw [hft]; omega
    have hI' : HG Try.prog LW 28 (mem m s) [.bp jB 0, .rp jF 5 (s.stack.length - 1) 0, .agg (Zbi (b.ins.getD (s.stack.getD (s.stack.length - 1) default).at_.toNat default))] (.bool false) (mem m s1) := by rw [hft]; exact hI
    ((repeat' first | (refine Zap tok mix (by rfl) ?_; conv => whnf) | (refine @And.intro (Zaa _ _ _ _) _ ?_ ?_; rotate_left; (conv => whnf); rotate_right)); all_goals (try ((guard_target = Zaa _ _ _ _); refine Zae ?_; (all_goals (try simp only [Zaa, kzz, kz11, kz12, maxL, Zad] at *)); all_goals omega)))
    refine .inr ⟨_, _, _, uG (QH.tnM (by simp) (by simp) hI' h32 (Zaz rfl rfl rfl rfl (fun _ => rfl)) rfl (fun q hq => Zan hq)), ?_⟩
    conv => whnf
    (repeat' ((fail_if_success (show AWp _ _ _ (Code.region 4 _ _) _ _)); first | (refine Zag ?_; conv => whnf) | (refine Zaj ?_; conv => whnf) | refine Zaf rfl (fun hb => ?_) (fun hb => ?_)))
    all_goals (try (exfalso; cases hb; done))
    clear hb
    skip
    refine ⟨_, srcL [], rfl, ?_⟩
    rw [← and_assoc]
    exact ⟨Zdd (s := s1) rfl rfl rfl (Zce rfl rfl rfl) rfl rfl rfl (fun q hq => Za9 hq), .tup .nil, fun i hi hp => Zcq i (by rw [List.mem_singleton.1 hi]; exact .head _) hp⟩
  · exfalso
    rw [hft] at hb
    simp only [decide_eq_false_iff_not] at hb
    omega
set_option maxHeartbeats 4000000 in
theorem c_mStepC (m : Zai) (s s1 : Mach) (f : Zaw) (hf : topF s = f) (h : 0 < s.stack.length) (h32 : s.stack.length ≤ 32) (hF : OkF m f) (he : endB m f = false)
    (hI : HG Try.prog [jB] 28 (mem m s) [.bp jB 0, .rp jF 5 (s.stack.length - 1) 0, .agg (Zbi ((Zas m f).ins.getD f.at_.toNat default))] (.bool false) (mem m s1)) :
    HG Try.prog [jB] 17 (mem m s) [.bp jB 0] (.tup []) (mem m s1) := by
  refine Za4 tok Try.func17 rfl (by decide +kernel) (Nat.le_of_ble_eq_true rfl) ?_
  have hmx : maxL = 4294967296 := rfl
  have hft : s.stack.getD (s.stack.length - 1) default = f := hf
  have hT := Zfe m s h (by omega)
  have hB := Zc7 m s (s.stack.length - 1) (by omega) (by rw [hft]; exact hF)
  rw [hft] at hB
  have hE : ¬ f.at_ = (Zas m f).ins.length := fun e => by
    have : endB m f = true := decide_eq_true e
    rw [he] at this; cases this
  have hgen : ∃ b, Zas m f = b := ⟨_, rfl⟩
  obtain ⟨b, hbe⟩ := hgen
  have a0 := hF.a0
  have a1 := hF.a1
  rw [hbe] at hB hE a1 hI
  (repeat' ((fail_if_success (show AWp _ _ _ (Code.region 0 _ _) _ _)); refine Zac ?_))
  (repeat' (refine Zab tok (by rfl) ?_; conv => whnf))
  refine .inr ⟨_, _, _, uG (QH.tnM (by simp) (by simp) hT h32 (Zaz rfl rfl rfl rfl (fun _ => rfl)) rfl (fun q hq => Zan hq)), ?_⟩
  conv => whnf
  (repeat' ((fail_if_success (show AWp _ _ _ (Code.region 1 _ _) _ _)); refine Zac ?_))
  (repeat' (refine Zab tok (by rfl) ?_; conv => whnf))
  refine .inr ⟨_, _, _, uG (QH.tnM (by simp) (by simp) hB h32 (Zaz rfl rfl rfl rfl (fun _ => Zbn (fun hq => Zan (by omega)))) rfl (fun q hq => (Zbn (fun hq => Zan (by omega))).trans (Zan hq))), ?_⟩
  conv => whnf
  ((repeat' ((fail_if_success (show AWp _ _ _ (Code.region 3 _ _) _ _)); (fail_if_success (show AWp _ _ _ (Code.region 5 _ _) _ _)); first | refine Zac ?_ | (refine Zap tok mix (by rfl) ?_; conv => whnf) | (refine Zag ?_; conv => whnf) | refine Zaf rfl (fun hb => ?_) (fun hb => ?_) | (refine @And.intro (Zaa _ _ _ _) _ ?_ ?_; rotate_left; (conv => whnf); rotate_right))); all_goals (try ((guard_target = Zaa _ _ _ _); refine Zae ?_; (all_goals (try simp only [Zaa, kzz, kz11, kz12, maxL, Zad] at *)); all_goals omega)))
  · clear hb
    refine Zau (Weak.fam (L := [jB]) (tl := [(0, .bp jB 0), (2, .rp jN 5 (s.stack.length - 1) 0), (3, .bp (3, 0, 0) 0)]) (hl := [((3, 0, 0), Za6 (Zbl b))] ++ memNL m s) (F := famW s.stack) [(jN, some jF)] rfl (fun c hc => ?_) ?_ ?_ ?_ (fun i hi _ => by rw [List.mem_singleton.1 hi]; exact ⟨rfl, rfl⟩)) ?_
    · rw [List.mem_singleton.1 (show c ∈ [jF] from hc)]; exact .inl rfl
    · exact .cons (.bp rfl rfl) (.cons (.rp rfl rfl rfl) (.cons (.bp rfl rfl) .nil))
    · refine .old rfl rfl (GB.one (GVs.imm rfl) (fun _ => rfl)) ?_
      exact HLs_memN rfl rfl rfl rfl (fun _ => rfl) rfl rfl rfl rfl rfl rfl rfl rfl (fun q hq => Zcg hq)
    · exact Ze9 (fun _ _ => rfl) (fun q hq => Za9 hq)
    have hle : s.stack.length - 1 < s.stack.length := by omega
    have hat1 : (s.stack.getD (s.stack.length - 1) default).at_.toNat < b.ins.length := by rw [hft]; omega
    have hat0' : 0 ≤ (s.stack.getD (s.stack.length - 1) default).at_ := by rw [hft]; omega
    have hI' : HG Try.prog [jB] 28 (memN m s) [.bp jB 0, .rp jN 5 (s.stack.length - 1) 0, .agg (Zbi (b.ins.getD (s.stack.getD (s.stack.length - 1) default).at_.toNat default))] (.bool false) (mem m s1) := by rw [hft]; exact renN' hI (.cons (.bp rfl rfl) (.cons (.rp rfl rfl rfl) (.cons (.imm rfl) .nil)))
    ((repeat' first | (refine Zap tok mix (by rfl) ?_; conv => whnf) | (refine @And.intro (Zaa _ _ _ _) _ ?_ ?_; rotate_left; (conv => whnf); rotate_right)); all_goals (try ((guard_target = Zaa _ _ _ _); refine Zae ?_; (all_goals (try simp only [Zaa, kzz, kz11, kz12, maxL, Zad] at *)); all_goals omega)))
    refine .inr ⟨_, _, _, uG (QH.ddM (by simp) hI' h32 (memN_sub rfl rfl rfl rfl (fun _ => rfl)) rfl rfl (fun q hq => Zan hq)), ?_⟩
    conv => whnf
    (repeat' ((fail_if_success (show AWp _ _ _ (Code.region 4 _ _) _ _)); first | (refine Zag ?_; conv => whnf) | (refine Zaj ?_; conv => whnf) | refine Zaf rfl (fun hb => ?_) (fun hb => ?_)))
    all_goals (try (exfalso; cases hb; done))
    clear hb
    skip
    refine ⟨_, srcL [], rfl, ?_⟩
    rw [← and_assoc]
    exact ⟨Zdd (s := s1) rfl rfl rfl (Zce rfl rfl rfl) rfl rfl rfl (fun q hq => Za9 hq), .tup .nil, fun i hi hp => Zcq i (by rw [List.mem_singleton.1 hi]; exact .head _) hp⟩
  · exfalso
    rw [hft] at hb
    simp only [decide_eq_false_iff_not] at hb
    omega
end Go.Proofs.Ytoelbgjpmpoolaa
