/- The program's dead.Func and dead.Module compute the document's answer, for every module and function within the statement's guards. -/
import Derived.Test.YtmanpbgaihdalaaDvc3
import Derived.Test.YtmanpbgaihdalaaLawDeadRight1
import Derived.RangeFuncGives
import Derived.Maps.AppendAt
import Derived.Shelf.Abstract
import Derived.WalkKit
import Derived.OwnWalkIn
import Derived.TacticsInMore
import Derived.RegionIn
import Derived.LoopNIn
import Derived.LoopIn
set_option linter.unusedVariables false
set_option linter.unusedSimpArgs false
set_option linter.unnecessarySimpa false
namespace Go.Proofs.Ytmanpbgaihdalaa
namespace Fl
open Go Dv
set_option maxRecDepth 10000
set_option linter.unusedSimpArgs false
set_option linter.unusedVariables false
inductive Reach (F : Func) : Nat → Prop where
  | zero : 0 < F.blocks.length → Reach F 0
  | step {n : Nat} {k : Int} : Reach F n → k ∈ next F n → Reach F k.toNat
open Classical in
noncomputable def Zcb (F : Func) : List Bool := (List.range F.blocks.length).map fun i => decide (Reach F i)
theorem Reach.lt {F : Func} {n : Nat} (h : Reach F n) : n < F.blocks.length := by
  cases h with
  | zero h => exact h
  | step _ h => have := next_in h; omega
theorem Zek (F : Func) : (Zcb F).length = F.blocks.length := by simp [Zcb]
theorem reachB_get (F : Func) (i : Nat) : (Zcb F).getD i false = true ↔ Reach F i := by
  unfold Zcb
  rw [List.getD_eq_getElem?_getD, List.getElem?_map]
  by_cases h : i < F.blocks.length
  · simp [h]
  · simp [h]
    intro hr; exact absurd hr.lt (by omega)
theorem reachB_eq {F : Func} {o : List Bool} (len : o.length = F.blocks.length) (sound : ∀ i, o.getD i false = true → Reach F i) (zero : 0 < F.blocks.length → o.getD 0 false = true)
    (closed : ∀ (n : Nat) (k : Int), n < F.blocks.length → k ∈ next F n → o.getD n false = true → o.getD k.toNat false = true) : o = Zcb F := by
  apply Zbo false (by rw [len, Zek])
  intro i hi
  rw [Bool.eq_iff_iff, reachB_get]
  refine ⟨sound i, fun h => ?_⟩
  induction h with
  | zero h => exact zero h
  | step h hk ih => exact closed _ _ h.lt hk (ih (by rw [len]; exact h.lt))
structure WI (F : Func) (o0 o : List Bool) (m : Bool) (C : Prop) : Prop where
  len : o.length = F.blocks.length
  sound : ∀ i, o.getD i false = true → Reach F i
  zero : o.getD 0 false = true
  le : o.count false ≤ o0.count false
  dec : m = true → o.count false < o0.count false
  same : m = false → o = o0 ∧ C
def CN (F : Func) (o : List Bool) (n : Nat) : Prop := ∀ (n' : Nat) (k : Int), n' < n → k ∈ next F n' → o.getD n' false = true → o.getD k.toNat false = true
def CI (F : Func) (o : List Bool) (n i : Nat) : Prop := ∀ i', i' < i → o.getD n false = true → o.getD ((next F n).getD i' 0).toNat false = true
theorem WI.set {F : Func} {o0 o : List Bool} {m : Bool} {C C' : Prop} (h : WI F o0 o m C) {n : Nat} {k : Int} (hk : k ∈ next F n) (h1 : o.getD n false = true) (h2 : o.getD k.toNat false = false) : WI F o0 (o.set k.toNat true) true C' := by
  have hin := next_in hk
  have hl := h.len
  have hc := set_count (l := o) (i := k.toNat) (by omega) h2
  refine ⟨by simp [hl], fun i hi => ?_, ?_, by have := h.le; omega, fun _ => by have := h.le; omega, fun e => by cases e⟩
  · rw [Zey] at hi
    by_cases e : k.toNat = i
    · rw [← e]; exact .step (h.sound n h1) hk
    · rw [if_neg (fun x => e x.1)] at hi; exact h.sound i hi
  · rw [Zey]
    split
    · rfl
    · exact h.zero
theorem WI.weak {F : Func} {o0 o : List Bool} {m : Bool} {C C' : Prop} (h : WI F o0 o m C) (hc : m = false → C → C') : WI F o0 o m C' :=
  ⟨h.len, h.sound, h.zero, h.le, h.dec, fun e => ⟨(h.same e).1, hc e (h.same e).2⟩⟩
theorem fc39 (F : Func) : FC Try.prog 132 [.agg (Zai F), iv (-1)] (Zea (Zcb F)) := by
  refine Zay tok Try.func132 rfl (by decide +kernel) (Nat.le_of_ble_eq_true rfl) ?_
  refine Zat 0 (fun hl => ?_)
  have hl0 : F.blocks.length ≤ maxL := hl.2.2.1.1
  ((repeat' first | refine Zad ?_ | (refine Zac tok (by rfl) ?_; conv => whnf) | refine Zaf ?_ | (refine Zah ?_; conv => whnf) | (refine Zaj ?_; conv => whnf) | refine Zag rfl (fun hb => ?_) (fun hb => ?_) | (refine @And.intro (Zaa _ _ _ _) _ ?_ ?_; rotate_left; (conv => whnf); rotate_right)); all_goals (try ((guard_target = Zaa _ _ _ _); refine Zae ?_; (all_goals (try simp only [Zaa, kzz, kz11, kz12, maxL, Zab] at *)); all_goals omega)))
  · refine ⟨_, rfl, Rel.row rfl rfl (by rw [Zek]; simp) (fun i hi => ?_)⟩
    rw [Zek] at hi
    simp only [Zaa, kzz, kz11, kz12, maxL, Zab] at *
    omega
  have hz : 0 < F.blocks.length := by simp only [Zaa, kzz, kz11, kz12, maxL, Zab] at *; omega
  let S1 : List Bool × Bool → ASt := fun s => mkS [(1, iv (-1)), (2, .bp (2, 0, 0) 0), (5, .rs (13, 0, 0) 1 0 F.blocks.length), (6, .bool s.2)] [((2, 0, 0), fbox F), ((13, 0, 0), brow F.blocks.length s.1)]
  refine Zas S1
    (fun s => s.1.length = F.blocks.length ∧ (∀ i, s.1.getD i false = true → Reach F i) ∧ s.1.getD 0 false = true ∧ (s.2 = false → CN F s.1 F.blocks.length)) (fun s => 2 * s.1.count false + s.2.toNat)
    ((List.replicate F.blocks.length false).set 0 true, true) ?_ ?_ ?_
  · refine ⟨by simp, fun i hi => ?_, ?_, fun e => by cases e⟩
    · rw [Zey] at hi
      by_cases e : 0 = i
      · subst e; exact .zero hz
      · rw [if_neg (fun x => e x.1)] at hi
        rw [List.getD_eq_getElem?_getD, List.getElem?_replicate] at hi
        split at hi <;> cases hi
    · rw [Zey, if_pos ⟨rfl, by simpa using hz⟩]
  · refine Weak.list [((2, 0, 0), .old (2, 0, 0), fbox F), ((13, 0, 0), .old (13, 0, 0), brow F.blocks.length ((List.replicate F.blocks.length false).set 0 true))] rfl (by rfl) ?_ (.old rfl (BLe.refl _) (.old rfl (BLe.row (by simp) (fun x hx => ?_)) .nil))
    · ((repeat' first | exact TLes.nil | refine TLes.cons (TLe.eq rfl) ?_); skip)
    · show updR (fun _ => [AV.bool false]) 0 [AV.bool true] x = _
      rw [updR_congr (g := fun x => [.bool ((List.replicate F.blocks.length false).getD x false)])]
      · exact upd_row (e := fun b => [.bool b]) (by simpa using hz) x
      · rw [List.getD_eq_getElem?_getD, List.getElem?_replicate]
        split <;> rfl
  rintro ⟨o0, m0⟩ ⟨h1, h2, h3, h4⟩
  dsimp only at h1 h2 h3 h4
  (repeat' first | refine Zad ?_ | (refine Zac tok (by rfl) ?_; conv => whnf) | refine Zaf ?_ | (refine Zah ?_; conv => whnf) | (refine Zar ?_; conv => whnf) | (refine Zaj ?_; conv => whnf) | refine Zag rfl (fun hb => ?_) (fun hb => ?_))
  · -- a round
    refine Zas (fun s : Nat × List Bool × Bool => mkS [(1, iv (-1)), (2, .bp (2, 0, 0) 0), (5, .rs (13, 0, 0) 1 0 F.blocks.length), (6, .bool s.2.2), (7, iv s.1)] [((2, 0, 0), fbox F), ((13, 0, 0), brow F.blocks.length s.2.1)])
      (fun s => s.1 ≤ F.blocks.length ∧ WI F o0 s.2.1 s.2.2 (CN F o0 s.1)) (fun s => F.blocks.length - s.1) (0, o0, false) ?_ ?_ ?_
    · exact ⟨Nat.zero_le _, h1, h2, h3, Nat.le_refl _, fun e => (by cases e), fun _ => ⟨rfl, fun n' k h => absurd h (Nat.not_lt_zero _)⟩⟩
    · refine Weak.list [((2, 0, 0), .old (2, 0, 0), fbox F), ((13, 0, 0), .old (13, 0, 0), brow F.blocks.length o0)] rfl (by rfl) ?_ (.old rfl (BLe.refl _) (.old rfl (BLe.refl _) .nil))
      ((repeat' first | exact TLes.nil | refine TLes.cons (TLe.eq rfl) ?_); skip)
    rintro ⟨n, o1, m1⟩ ⟨hn, hw1⟩
    dsimp only at hn hw1
    (repeat' first | refine Zad ?_ | (refine Zac tok (by rfl) ?_; conv => whnf) | refine Zaf ?_ | (refine Zah ?_; conv => whnf) | (refine Zar ?_; conv => whnf) | refine Zag rfl (fun hb => ?_) (fun hb => ?_))
    · refine .inl ⟨_, _, _, uG (QC.fc (fc18 F n) rfl), ?_⟩
      conv => whnf
      (repeat' first | refine Zad ?_ | (refine Zac tok (by rfl) ?_; conv => whnf) | refine Zaf ?_)
      refine Zat 8 (fun hm => ?_)
      have hNl : (next F (n : Int)).length ≤ maxL := hm.1
      clear hm
      refine Zas (fun s : Nat × List Bool × Bool => mkS [(1, iv (-1)), (2, .bp (2, 0, 0) 0), (5, .rs (13, 0, 0) 1 0 F.blocks.length), (6, .bool s.2.2), (7, iv n), (8, ints (next F n)), (9, iv s.1)] [((2, 0, 0), fbox F), ((13, 0, 0), brow F.blocks.length s.2.1)])
        (fun s => s.1 ≤ (next F n).length ∧ WI F o0 s.2.1 s.2.2 (CN F o0 n ∧ CI F o0 n s.1)) (fun s => (next F n).length - s.1) (0, o1, m1) ?_ ?_ ?_
      · exact ⟨Nat.zero_le _, hw1.weak (fun _ h => ⟨h, fun i' h => absurd h (Nat.not_lt_zero _)⟩)⟩
      · refine Weak.list [((2, 0, 0), .old (2, 0, 0), fbox F), ((13, 0, 0), .old (13, 0, 0), brow F.blocks.length o1)] rfl (by rfl) ?_ (.old rfl (BLe.refl _) (.old rfl (BLe.refl _) .nil))
        ((repeat' first | exact TLes.nil | refine TLes.cons (TLe.eq rfl) ?_); skip)
      rintro ⟨i, o2, m2⟩ ⟨hi, hw2⟩
      dsimp only at hi hw2
      have hmem : i < (next F (n : Int)).length → (next F (n : Int)).getD i 0 ∈ next F n := fun h => by rw [Zbh 0 h]; exact List.getElem_mem h
      have hin : i < (next F (n : Int)).length → 0 ≤ (next F (n : Int)).getD i 0 ∧ (next F (n : Int)).getD i 0 < F.blocks.length := fun h => next_in (hmem h)
      have hlen := hw2.len
      ((repeat' first | refine Zad ?_ | (refine Zac tok (by rfl) ?_; conv => whnf) | refine Zaf ?_ | (refine Zah ?_; conv => whnf) | (refine Zar ?_; conv => whnf) | refine Zag rfl (fun hb => ?_) (fun hb => ?_) | (refine @And.intro (Zaa _ _ _ _) _ ?_ ?_; rotate_left; (conv => whnf); rotate_right)); all_goals (try ((guard_target = Zaa _ _ _ _); (first | refine Zae ?_ | (refine Za9 ?_; intro hgd; (conv at hgd => whnf); (try simp (disch := omega) only [Zal] at hgd))); (all_goals (try simp only [Zaa, kzz, kz11, kz12, maxL, Zab] at *)); all_goals omega)))
      · rename_i hlt
        have hlt' : i < (next F (n : Int)).length := by simp only [Zaa, kzz, kz11, kz12, maxL, Zab] at *; omega
        simp only [Zaa, kzz, kz11, kz12, maxL, Zab] at *
        obtain ⟨⟨b1, b2⟩, b3⟩ := hb
        refine ⟨(i + 1, o2.set ((next F (n : Int)).getD i 0).toNat true, true), ⟨by dsimp only; omega, hw2.set (hmem hlt') b1 b3⟩, by dsimp only; omega, ?_⟩
        refine Weak.list [((2, 0, 0), .old (2, 0, 0), fbox F), ((13, 0, 0), .old (13, 0, 0), brow F.blocks.length (o2.set ((next F (n : Int)).getD i 0).toNat true))] rfl (by rfl) ?_ (.old rfl (BLe.refl _) (.old rfl (BLe.row rfl (fun x hx => ?_)) .nil))
        · ((repeat' first | exact TLes.nil | refine TLes.cons (TLe.eq rfl) ?_ | refine TLes.cons (TLe.int ?_) ?_); (all_goals first | ((try (simp only [Zaa, kzz, kz11, kz12, maxL, Zab] at *)); exact Zal (by omega) (by omega)) | skip))
        · exact upd_row' (fun b => [.bool b]) false o2 (k' := ((next F (n : Int)).getD i 0).toNat) (by omega) (by simp) rfl x
      · rename_i hlt
        have hlt' : i < (next F (n : Int)).length := by simp only [Zaa, kzz, kz11, kz12, maxL, Zab] at *; omega
        refine ⟨(i + 1, o2, m2), ⟨by dsimp only; omega, hw2.weak (fun hm2 hc => ⟨hc.1, fun i' hi' => ?_⟩)⟩, by dsimp only; omega, ?_⟩
        · by_cases e : i' = i
          · subst e
            intro hn0
            have hbx := hb
            have h0 := (hw2.same hm2).1
            subst h0
            cases hx : o2.getD ((next F (n : Int)).getD i' 0).toNat false with
            | true => rfl
            | false =>
              have hne : ¬ (next F (n : Int)).getD i' 0 = -1 := by omega
              have hb2 : (bif bif o2.getD n false then !decide ((next F (n : Int)).getD i' 0 = -1) else false then !o2.getD ((next F (n : Int)).getD i' 0).toNat false else false) = false := by
                simp only [Nat.zero_add, Int.toNat_natCast] at hbx; exact hbx
              rw [hn0, hx, decide_eq_false hne] at hb2
              exact absurd hb2 (by decide)
          · exact hc.2 i' (by omega)
        · refine Weak.list [((2, 0, 0), .old (2, 0, 0), fbox F), ((13, 0, 0), .old (13, 0, 0), brow F.blocks.length o2)] rfl (by rfl) ?_ (.old rfl (BLe.refl _) (.old rfl (BLe.refl _) .nil))
          ((repeat' first | exact TLes.nil | refine TLes.cons (TLe.eq rfl) ?_ | refine TLes.cons (TLe.int ?_) ?_); (all_goals first | ((try (simp only [Zaa, kzz, kz11, kz12, maxL, Zab] at *)); exact Zal (by omega) (by omega)) | skip))
      · have e : i = (next F (n : Int)).length := by simp only [Zaa, kzz, kz11, kz12, maxL, Zab] at *; omega
        rename_i hnl _
        have hnl' : n < F.blocks.length := by simp only [Zaa, kzz, kz11, kz12, maxL, Zab] at *; omega
        subst e
        refine ⟨(n + 1, o2, m2), ⟨by dsimp only; omega, hw2.weak (fun hm2 hc n' k hn' hk h0 => ?_)⟩, by dsimp only; omega, ?_⟩
        · by_cases e : n' = n
          · subst e
            obtain ⟨j, hj, rfl⟩ := List.getElem_of_mem hk
            have := hc.2 j hj h0
            rwa [Zbh 0 hj] at this
          · exact hc.1 n' k (by omega) hk h0
        · refine Weak.list [((2, 0, 0), .old (2, 0, 0), fbox F), ((13, 0, 0), .old (13, 0, 0), brow F.blocks.length o2)] rfl (by rfl) ?_ (.old rfl (BLe.refl _) (.old rfl (BLe.refl _) .nil))
          ((repeat' first | exact TLes.nil | refine TLes.cons (TLe.eq rfl) ?_ | refine TLes.cons (TLe.int ?_) ?_); (all_goals first | ((try (simp only [Zaa, kzz, kz11, kz12, maxL, Zab] at *)); exact Zal (by omega) (by omega)) | skip))
    · have e : n = F.blocks.length := by simp only [Zaa, kzz, kz11, kz12, maxL, Zab] at *; omega
      subst e
      refine ⟨(o1, m1), ⟨hw1.len, hw1.sound, hw1.zero, fun e => by obtain ⟨rfl, h⟩ := hw1.same e; exact h⟩, ?_, ?_⟩
      · have := hw1.le
        rename_i hm0
        dsimp only at hm0 ⊢
        subst hm0
        cases m1 with
        | true => have := hw1.dec rfl; simp; omega
        | false => simp; omega
      · refine Weak.list [((2, 0, 0), .old (2, 0, 0), fbox F), ((13, 0, 0), .old (13, 0, 0), brow F.blocks.length o1)] rfl (by rfl) ?_ (.old rfl (BLe.refl _) (.old rfl (BLe.refl _) .nil))
        ((repeat' first | exact TLes.nil | refine TLes.cons (TLe.eq rfl) ?_); skip)
  · -- the end
    dsimp only at hb
    have e := reachB_eq h1 h2 (fun _ => h3) (h4 hb)
    subst e
    exact ⟨_, rfl, Rel.row rfl rfl (by rw [Zek]) (fun _ _ => rfl)⟩
theorem fc23 (F : Func) : FC Try.prog 99 [.agg (Zai F)] (Zea (Zcb F)) := by
  refine Zay tok Try.func99 rfl (by decide +kernel) (Nat.le_of_ble_eq_true rfl) ?_
  (repeat' first | refine Zad ?_ | (refine Zac tok (by rfl) ?_; conv => whnf))
  refine .inl ⟨_, _, _, uG (QC.fc (fc39 F) rfl), ?_⟩
  conv => whnf
  (repeat' (refine Zaj ?_; conv => whnf))
  exact ⟨_, rfl, Rel.imm rfl⟩
end Fl
end Go.Proofs.Ytmanpbgaihdalaa
namespace Go.Proofs.Ytmanpbgaihdalaa
namespace Fl
open Go Dv
set_option maxRecDepth 10000
set_option linter.unusedSimpArgs false
set_option linter.unusedVariables false
theorem count_zero {l : List Bool} {i : Nat} (h : l.count false = 0) (hi : i < l.length) : l.getD i false = true := by
  rw [Zbh false hi]
  have := List.count_eq_zero.1 h
  cases e : l[i] with
  | true => rfl
  | false => exact absurd (by rw [← e]; exact List.getElem_mem hi) this
def Ahead (L : List Int) (m p : Int) : Prop := ∃ A B, L = A ++ p :: B ∧ m ∈ A
theorem Ahead.left {L K : List Int} {m p : Int} (h : Ahead L m p) : Ahead (L ++ K) m p := by
  obtain ⟨A, B, rfl, hm⟩ := h; exact ⟨A, B ++ K, by simp, hm⟩
theorem Ahead.right {L K : List Int} {m p : Int} (h : Ahead L m p) : Ahead (K ++ L) m p := by
  obtain ⟨A, B, rfl, hm⟩ := h; exact ⟨K ++ A, B, by simp, by simp [hm]⟩
structure WalkP (F : Func) (s s' : List Bool × List Int) (L l : List Int) : Prop where
  len : s'.1.length = s.1.length
  left : s'.2 = s.2 ++ L
  nodup : L.Nodup
  seen : ∀ m : Nat, s'.1.getD m false = true ↔ s.1.getD m false = true ∨ (m : Int) ∈ L
  new : ∀ m ∈ L, 0 ≤ m ∧ m < F.blocks.length ∧ s.1.getD m.toNat false = false
  closed : ∀ m ∈ L, ∀ k ∈ next F m, s'.1.getD k.toNat false = true
  par : ∀ m ∈ L, m ∈ l ∨ ∃ p, m ∈ next F p ∧ p ∈ L ∧ Ahead L m p
  all : ∀ k ∈ l, s'.1.getD k.toNat false = true
theorem WalkP.nil (F : Func) (s : List Bool × List Int) : WalkP F s s [] [] :=
  ⟨rfl, by simp, List.nodup_nil, by simp, by simp, by simp, by simp, by simp⟩
theorem WalkP.append {F : Func} {s s1 s2 : List Bool × List Int} {L K l k : List Int} (h : WalkP F s s1 L l) (g : WalkP F s1 s2 K k) : WalkP F s s2 (L ++ K) (l ++ k) := by
  refine ⟨g.len.trans h.len, by rw [g.left, h.left, List.append_assoc], ?_, fun m => ?_, fun m hm => ?_, fun m hm x hx => ?_, fun m hm => ?_, fun x hx => ?_⟩
  · rw [List.nodup_append]
    refine ⟨h.nodup, g.nodup, fun a ha b hb e => ?_⟩
    subst e
    have h1 := (g.new a hb).2.2
    have h0 := (h.new a ha).1
    have := (h.seen a.toNat).2 (.inr (by rw [Int.toNat_of_nonneg h0]; exact ha))
    rw [this] at h1; cases h1
  · rw [g.seen, h.seen, List.mem_append, or_assoc]
  · rw [List.mem_append] at hm
    rcases hm with hm | hm
    · exact h.new m hm
    · obtain ⟨a, b, c⟩ := g.new m hm
      refine ⟨a, b, ?_⟩
      cases e : s.1.getD m.toNat false with
      | false => rfl
      | true => rw [(h.seen m.toNat).2 (.inl e)] at c; cases c
  · rw [List.mem_append] at hm
    rcases hm with hm | hm
    · exact (g.seen _).2 (.inl (h.closed m hm x hx))
    · exact g.closed m hm x hx
  · rw [List.mem_append] at hm
    rcases hm with hm | hm
    · rcases h.par m hm with h1 | ⟨p, h1, h2, h3⟩
      · left; simp [h1]
      · right; exact ⟨p, h1, by simp [h2], h3.left⟩
    · rcases g.par m hm with h1 | ⟨p, h1, h2, h3⟩
      · left; simp [h1]
      · right; exact ⟨p, h1, by simp [h2], h3.right⟩
  · rw [List.mem_append] at hx
    rcases hx with hx | hx
    · exact (g.seen _).2 (.inl (h.all x hx))
    · exact g.all x hx
theorem fold_walkP {F : Func} {fuel : Nat} (ih : ∀ (n : Int) (s : List Bool × List Int), s.1.length = F.blocks.length → 0 ≤ n → n < F.blocks.length → s.1.count false ≤ fuel → ∃ L, WalkP F s (into F (fuel + 1) n s) L [n]) :
    ∀ (l : List Int) (s : List Bool × List Int), s.1.length = F.blocks.length → (∀ k ∈ l, 0 ≤ k ∧ k < F.blocks.length) → s.1.count false ≤ fuel →
      ∃ L, WalkP F s (l.foldl (fun s k => into F (fuel + 1) k s) s) L l
  | [], s, _, _, _ => ⟨[], .nil F s⟩
  | k :: l, s, h, hk, hc => by
      obtain ⟨L, hL⟩ := ih k s h (hk k (by simp)).1 (hk k (by simp)).2 hc
      have hkeep := into_keeps F (fuel + 1) k s h (hk k (by simp)).1 (hk k (by simp)).2
      obtain ⟨K, hK⟩ := fold_walkP ih l (into F (fuel + 1) k s) hkeep.1 (fun x hx => hk x (by simp [hx])) (Nat.le_trans hkeep.2.2 hc)
      exact ⟨L ++ K, hL.append hK⟩
theorem into_walkP {F : Func} : ∀ (fuel : Nat) (n : Int) (s : List Bool × List Int), s.1.length = F.blocks.length → 0 ≤ n → n < F.blocks.length → s.1.count false ≤ fuel →
    (s.1.getD n.toNat false = true ∧ into F (fuel + 1) n s = s) ∨ (s.1.getD n.toNat false = false ∧ ∃ L, WalkP F s (into F (fuel + 1) n s) (L ++ [n]) [n]) := by
  intro fuel
  induction fuel with
  | zero =>
    rintro n ⟨seen, left⟩ hl h0 h1 hc
    dsimp only at hl hc
    have : seen.getD n.toNat false = true := count_zero (by omega) (by omega)
    left; refine ⟨this, ?_⟩
    simp only [into, this, if_true]
  | succ fuel ih =>
    rintro n ⟨seen, left⟩ hl h0 h1 hc
    dsimp only at hl hc
    cases hs : seen.getD n.toNat false with
    | true => left; refine ⟨rfl, ?_⟩; simp only [into, hs, if_true]
    | false =>
      right
      have hcc := set_count (l := seen) (i := n.toNat) (by omega) hs
      have ih' : ∀ (n : Int) (s : List Bool × List Int), s.1.length = F.blocks.length → 0 ≤ n → n < F.blocks.length → s.1.count false ≤ fuel → ∃ L, WalkP F s (into F (fuel + 1) n s) L [n] := by
        intro n s a b c d
        rcases ih n s a b c d with ⟨h1, h2⟩ | ⟨_, L, h⟩
        · rw [h2]
          exact ⟨[], rfl, by simp, List.nodup_nil, by simp, by simp, by simp, by simp, by simpa using h1⟩
        · exact ⟨_, h⟩
      obtain ⟨L, hL⟩ := fold_walkP ih' (next F n) (seen.set n.toNat true, left) (by simpa using hl) (fun k hk => next_in hk) (by dsimp only; omega)
      refine ⟨rfl, L, ?_⟩
      have e : into F (fuel + 1 + 1) n (seen, left) = (((next F n).foldl (fun s k => into F (fuel + 1) k s) (seen.set n.toNat true, left)).1, ((next F n).foldl (fun s k => into F (fuel + 1) k s) (seen.set n.toNat true, left)).2 ++ [n]) := by
        rw [into]; simp only [hs, Bool.false_eq_true, if_false]
      rw [e]
      generalize (next F n).foldl (fun s k => into F (fuel + 1) k s) (seen.set n.toNat true, left) = s1 at hL
      have hset : ∀ m : Nat, (seen.set n.toNat true).getD m false = true ↔ seen.getD m false = true ∨ (m : Int) = n := by
        intro m
        rw [Zey]
        by_cases e : n.toNat = m
        · rw [if_pos ⟨e, by omega⟩]
          simp only [true_iff]; right; omega
        · rw [if_neg (fun x => e x.1)]
          constructor
          · exact .inl
          · rintro (h | h)
            · exact h
            · exact absurd (by omega) e
      refine ⟨by simpa using hL.len, by dsimp only; rw [hL.left, List.append_assoc], ?_, fun m => ?_, fun m hm => ?_, fun m hm x hx => ?_, fun m hm => ?_, fun x hx => ?_⟩
      · rw [List.nodup_append]
        refine ⟨hL.nodup, by simp, fun a ha b hb e1 => ?_⟩
        simp only [List.mem_singleton] at hb
        subst hb; subst e1
        have := (hL.new a ha).2.2
        dsimp only at this
        rw [(hset a.toNat).2 (.inr (by omega))] at this; cases this
      · dsimp only; rw [hL.seen, List.mem_append, List.mem_singleton]; dsimp only; rw [hset]
        exact ⟨fun h => h.elim (fun h => h.elim .inl (fun h => .inr (.inr h))) (fun h => .inr (.inl h)), fun h => h.elim (fun h => .inl (.inl h)) (fun h => h.elim .inr (fun h => .inl (.inr h)))⟩
      · rw [List.mem_append, List.mem_singleton] at hm
        rcases hm with hm | rfl
        · obtain ⟨a, b, c⟩ := hL.new m hm
          refine ⟨a, b, ?_⟩
          cases e : seen.getD m.toNat false with
          | false => rfl
          | true => dsimp only at c; rw [(hset _).2 (.inl e)] at c; cases c
        · exact ⟨h0, h1, hs⟩
      · rw [List.mem_append, List.mem_singleton] at hm
        rcases hm with hm | rfl
        · exact hL.closed m hm x hx
        · exact hL.all x hx
      · rw [List.mem_append, List.mem_singleton] at hm
        rcases hm with hm | rfl
        · right
          rcases hL.par m hm with h1 | ⟨p, h1, h2, h3⟩
          · exact ⟨n, h1, by simp, L, [], by simp, hm⟩
          · exact ⟨p, h1, by simp [h2], h3.left⟩
        · left; simp
      · simp only [List.mem_singleton] at hx
        subst hx
        exact (hL.seen _).2 (.inl ((hset _).2 (.inr (by omega))))
theorem walked_spec {F : Func} (h : 0 < F.blocks.length) : ∃ L, WalkP F (none0 F) (Zc8 F) (L ++ [0]) [0] := by
  have hw : Zc8 F = into F (F.blocks.length + 1) 0 (none0 F) := by unfold Zc8; rw [if_pos h]
  rw [hw]
  have hn : (none0 F).1.getD (0 : Int).toNat false = false := by simp [none0, List.getD_eq_getElem?_getD, List.getElem?_replicate, h]
  rcases into_walkP (F := F) F.blocks.length 0 (none0 F) (by simp [none0]) (by omega) (by omega) (by simp [none0]) with ⟨h1, _⟩ | ⟨_, h1⟩
  · rw [hn] at h1; cases h1
  · exact h1
theorem walked_nil {F : Func} (h : F.blocks.length = 0) : Zc8 F = ([], []) := by
  unfold Zc8; rw [if_neg (by omega)]; simp [none0, h]
theorem none0_get (F : Func) (m : Nat) : (none0 F).1.getD m false = false := by
  simp [none0, List.getD_eq_getElem?_getD, List.getElem?_replicate]; split <;> rfl
theorem walked_seen {F : Func} (h : 0 < F.blocks.length) {L : List Int} (hL : WalkP F (none0 F) (Zc8 F) (L ++ [0]) [0]) (m : Nat) : (Zc8 F).1.getD m false = true ↔ (m : Int) ∈ L ++ [0] := by
  rw [hL.seen, none0_get]; simp
theorem walked_reach (F : Func) : (Zc8 F).1 = Zcb F := by
  by_cases h : 0 < F.blocks.length
  · obtain ⟨L, hL⟩ := walked_spec h
    refine reachB_eq (by rw [hL.len]; simp [none0]) (fun i hi => ?_) (fun _ => ?_) (fun n k hn hk h1 => ?_)
    · -- all of L are reached: by the place from behind
      rw [walked_seen h hL] at hi
      have : ∀ (d : Nat) (A B : List Int) (m : Int), L ++ [0] = A ++ m :: B → B.length = d → Reach F m.toNat := by
        intro d
        induction d using Nat.strongRecOn with
        | ind d ih =>
          intro A B m e hd
          have hm : m ∈ L ++ [0] := by rw [e]; simp
          rcases hL.par m hm with h1 | ⟨p, h1, _, A', B', e', hA⟩
          · simp only [List.mem_singleton] at h1; subst h1; exact .zero h
          · -- p stands behind m
            have hnd := hL.nodup
            obtain ⟨A1, A2, rfl⟩ := List.append_of_mem hA
            have e2 : A ++ m :: B = A1 ++ m :: (A2 ++ p :: B') := by rw [← e, e']; simp
            have hA : A = A1 := by
              have hn1 : m ∉ A := fun hc => by
                rw [e, List.nodup_append] at hnd; exact hnd.2.2 m hc m (by simp) rfl
              have hn2 : m ∉ A1 := fun hc => by
                rw [e, e2, List.nodup_append] at hnd; exact hnd.2.2 m hc m (by simp) rfl
              rcases List.append_eq_append_iff.1 e2 with ⟨t, rfl, h2⟩ | ⟨t, rfl, h2⟩
              · cases t with
                | nil => simp
                | cons x t => simp only [List.cons_append, List.cons.injEq] at h2; rw [h2.1] at hn2; exact absurd (by simp) hn2
              · cases t with
                | nil => simp
                | cons x t => simp only [List.cons_append, List.cons.injEq] at h2; rw [h2.1] at hn1; exact absurd (by simp) hn1
            subst hA
            have hB : B = A2 ++ p :: B' := by simpa using e2
            have := ih B'.length (by rw [← hd, hB]; simp; omega) (A ++ m :: A2) B' p (by rw [e, hB]; simp) rfl
            have hp : p ∈ L ++ [0] := by rw [e']; simp
            exact .step this (by rw [Int.toNat_of_nonneg (hL.new p hp).1]; exact h1)
      obtain ⟨A, B, e⟩ := List.append_of_mem hi
      have := this B.length A B i e rfl
      simpa using this
    · rw [walked_seen h hL]; simp
    · rw [walked_seen h hL] at h1
      exact hL.closed n h1 k hk
  · rw [walked_nil (by omega)]
    have : F.blocks.length = 0 := by omega
    simp [Zcb, this]
end Fl
end Go.Proofs.Ytmanpbgaihdalaa
namespace Go.Proofs.Ytmanpbgaihdalaa
open Go Dv
set_option maxRecDepth 10000
set_option linter.unusedSimpArgs false
theorem ins_eq (u x : Ins) : u = x ↔ x.op = u.op ∧ x.dst = u.dst ∧ x.a = u.a ∧ x.b = u.b ∧ x.k = u.k ∧ x.f = u.f ∧ x.args = u.args := by
  rw [eq_comm (a := u)]; cases u; cases x; simp
set_option maxHeartbeats 4000000 in
theorem c_lins (m : Za1) (f : Func) (x : Ins) : FC Try.prog 159 [.agg (encL m f), .agg (Zbd x)] (.bool (decide (InsP m f x))) := by
  refine Zay tok Try.func159 rfl (by decide +kernel) (Nat.le_of_ble_eq_true rfl) ?_
  (repeat' ((fail_if_success (show AWp _ _ _ (Code.region 3 _ _) _ _)); first | refine Zad ?_ | (refine Zac tok (by rfl) ?_; conv => whnf)))
  refine Zac tok (by rfl) ?_
  conv => whnf
  refine Zb1 (fun q : Ins × Bool => mkS [(2, .bp (2, 0, 0) 0), (3, .bp (3, 0, 0) 0), (4, .bool false), (5, .bp (5, 0, 0) 0), (6, .bool q.2)] [((2, 0, 0), Zan (encL m f)), ((3, 0, 0), Zan (Zbd x)), ((5, 0, 0), .row true 7 1 (fun _ => Zbd q.1))]) (fun q => (q.2 && decide (q.1 = x)) = decide (InsP m f x)) ?_ ?_
  · (repeat' first | refine Zad ?_ | (refine Zac tok (by rfl) ?_; conv => whnf) | (refine Za3 tok mix (by rfl) ?_; conv => whnf) | refine Zaf ?_ | (refine Zah ?_; conv => whnf) | (refine Zaj ?_; conv => whnf) | refine Zag rfl (fun hb => ?_) (fun hb => ?_))
    all_goals (try (exfalso; simp only [decide_eq_true_eq, decide_eq_false_iff_not] at *; omega))
    all_goals (repeat' first | (refine .inl ⟨_, _, _, uG (QC.fc (c_place m f x.dst) rfl), ?_⟩; conv => whnf) | (refine .inl ⟨_, _, _, uG (QC.fc (c_place m f x.a) rfl), ?_⟩; conv => whnf) | (refine .inl ⟨_, _, _, uG (QC.fc (c_place m f x.b) rfl), ?_⟩; conv => whnf) | (refine .inl ⟨_, _, _, uG (QC.fc (c_lcall m f x.f x.args) rfl), ?_⟩; conv => whnf))
    skip
    all_goals (have hop := hb; simp only [decide_eq_true_eq, decide_eq_false_iff_not] at hop)
    all_goals (try (first | (refine ⟨(⟨x.op, x.dst, 0, 0, x.k, 0, []⟩, inn x.dst f.regs), ?hp, Weak.list [((2, 0, 0), .old (2, 0, 0), Zan (encL m f)), ((3, 0, 0), .old (3, 0, 0), Zan (Zbd x)), ((5, 0, 0), .old (5, 0, 0), .row true 7 1 (fun _ => Zbd ⟨x.op, x.dst, 0, 0, x.k, 0, []⟩))] rfl (by rfl) (.cons (.eq rfl) (.cons (.eq rfl) (.cons (.eq rfl) (.cons (.eq rfl) (.cons (.eq rfl) .nil))))) (.old rfl (BLe.refl _) (.old rfl (BLe.refl _) (.old rfl (BLe.rowW (Nat.le_refl _) (fun z hz => ?row)) .nil)))⟩; (case row => (match z, hz with | 0, _ => (repeat' ((conv => arg 1; whnf); (conv => arg 2; whnf); first | refine Wks.cons .refl ?_ | refine Wks.cons (.nsl rfl) ?_ | exact Wks.nil)))); (case hp => (rw [Bool.eq_iff_iff]; simp [InsP, ins_eq, hop, and_assoc, and_comm, and_left_comm]; done))) | (refine ⟨(⟨x.op, x.dst, x.a, 0, 0, 0, []⟩, bif inn x.dst f.regs then inn x.a f.regs else false), ?hp, Weak.list [((2, 0, 0), .old (2, 0, 0), Zan (encL m f)), ((3, 0, 0), .old (3, 0, 0), Zan (Zbd x)), ((5, 0, 0), .old (5, 0, 0), .row true 7 1 (fun _ => Zbd ⟨x.op, x.dst, x.a, 0, 0, 0, []⟩))] rfl (by rfl) (.cons (.eq rfl) (.cons (.eq rfl) (.cons (.eq rfl) (.cons (.eq rfl) (.cons (.eq rfl) .nil))))) (.old rfl (BLe.refl _) (.old rfl (BLe.refl _) (.old rfl (BLe.rowW (Nat.le_refl _) (fun z hz => ?row)) .nil)))⟩; (case row => (match z, hz with | 0, _ => (repeat' ((conv => arg 1; whnf); (conv => arg 2; whnf); first | refine Wks.cons .refl ?_ | refine Wks.cons (.nsl rfl) ?_ | exact Wks.nil)))); (case hp => (rw [Bool.eq_iff_iff]; simp [InsP, ins_eq, hop, and_assoc, and_comm, and_left_comm]; done))) | (refine ⟨(⟨x.op, x.dst, x.a, x.b, 0, 0, []⟩, bif bif inn x.dst f.regs then inn x.a f.regs else false then inn x.b f.regs else false), ?hp, Weak.list [((2, 0, 0), .old (2, 0, 0), Zan (encL m f)), ((3, 0, 0), .old (3, 0, 0), Zan (Zbd x)), ((5, 0, 0), .old (5, 0, 0), .row true 7 1 (fun _ => Zbd ⟨x.op, x.dst, x.a, x.b, 0, 0, []⟩))] rfl (by rfl) (.cons (.eq rfl) (.cons (.eq rfl) (.cons (.eq rfl) (.cons (.eq rfl) (.cons (.eq rfl) .nil))))) (.old rfl (BLe.refl _) (.old rfl (BLe.refl _) (.old rfl (BLe.rowW (Nat.le_refl _) (fun z hz => ?row)) .nil)))⟩; (case row => (match z, hz with | 0, _ => (repeat' ((conv => arg 1; whnf); (conv => arg 2; whnf); first | refine Wks.cons .refl ?_ | refine Wks.cons (.nsl rfl) ?_ | exact Wks.nil)))); (case hp => (rw [Bool.eq_iff_iff]; simp [InsP, ins_eq, hop, and_assoc, and_comm, and_left_comm]; done))) | (refine ⟨(⟨x.op, 0, x.a, x.b, 0, 0, []⟩, bif inn x.a f.regs then inn x.b f.regs else false), ?hp, Weak.list [((2, 0, 0), .old (2, 0, 0), Zan (encL m f)), ((3, 0, 0), .old (3, 0, 0), Zan (Zbd x)), ((5, 0, 0), .old (5, 0, 0), .row true 7 1 (fun _ => Zbd ⟨x.op, 0, x.a, x.b, 0, 0, []⟩))] rfl (by rfl) (.cons (.eq rfl) (.cons (.eq rfl) (.cons (.eq rfl) (.cons (.eq rfl) (.cons (.eq rfl) .nil))))) (.old rfl (BLe.refl _) (.old rfl (BLe.refl _) (.old rfl (BLe.rowW (Nat.le_refl _) (fun z hz => ?row)) .nil)))⟩; (case row => (match z, hz with | 0, _ => (repeat' ((conv => arg 1; whnf); (conv => arg 2; whnf); first | refine Wks.cons .refl ?_ | refine Wks.cons (.nsl rfl) ?_ | exact Wks.nil)))); (case hp => (rw [Bool.eq_iff_iff]; simp [InsP, ins_eq, hop, and_assoc, and_comm, and_left_comm]; done))) | (refine ⟨(⟨x.op, x.dst, 0, 0, 0, x.f, x.args⟩, bif inn x.dst f.regs then argsB m f x.f x.args else false), ?hp, Weak.list [((2, 0, 0), .old (2, 0, 0), Zan (encL m f)), ((3, 0, 0), .old (3, 0, 0), Zan (Zbd x)), ((5, 0, 0), .old (5, 0, 0), .row true 7 1 (fun _ => Zbd ⟨x.op, x.dst, 0, 0, 0, x.f, x.args⟩))] rfl (by rfl) (.cons (.eq rfl) (.cons (.eq rfl) (.cons (.eq rfl) (.cons (.eq rfl) (.cons (.eq rfl) .nil))))) (.old rfl (BLe.refl _) (.old rfl (BLe.refl _) (.old rfl (BLe.rowW (Nat.le_refl _) (fun z hz => ?row)) .nil)))⟩; (case row => (match z, hz with | 0, _ => (repeat' ((conv => arg 1; whnf); (conv => arg 2; whnf); first | refine Wks.cons .refl ?_ | exact Wks.nil)))); (case hp => (rw [Bool.eq_iff_iff]; simp [InsP, ins_eq, hop, and_assoc, and_comm, and_left_comm]; done))) | (refine ⟨(⟨x.op, 0, x.a, 0, 0, 0, []⟩, inn x.a f.regs), ?hp, Weak.list [((2, 0, 0), .old (2, 0, 0), Zan (encL m f)), ((3, 0, 0), .old (3, 0, 0), Zan (Zbd x)), ((5, 0, 0), .old (5, 0, 0), .row true 7 1 (fun _ => Zbd ⟨x.op, 0, x.a, 0, 0, 0, []⟩))] rfl (by rfl) (.cons (.eq rfl) (.cons (.eq rfl) (.cons (.eq rfl) (.cons (.eq rfl) (.cons (.eq rfl) .nil))))) (.old rfl (BLe.refl _) (.old rfl (BLe.refl _) (.old rfl (BLe.rowW (Nat.le_refl _) (fun z hz => ?row)) .nil)))⟩; (case row => (match z, hz with | 0, _ => (repeat' ((conv => arg 1; whnf); (conv => arg 2; whnf); first | refine Wks.cons .refl ?_ | refine Wks.cons (.nsl rfl) ?_ | exact Wks.nil)))); (case hp => (rw [Bool.eq_iff_iff]; simp [InsP, ins_eq, hop, and_assoc, and_comm, and_left_comm]; done))) | (refine ⟨(⟨x.op, x.dst, 0, 0, 0, 0, []⟩, inn x.dst f.regs), ?hp, Weak.list [((2, 0, 0), .old (2, 0, 0), Zan (encL m f)), ((3, 0, 0), .old (3, 0, 0), Zan (Zbd x)), ((5, 0, 0), .old (5, 0, 0), .row true 7 1 (fun _ => Zbd ⟨x.op, x.dst, 0, 0, 0, 0, []⟩))] rfl (by rfl) (.cons (.eq rfl) (.cons (.eq rfl) (.cons (.eq rfl) (.cons (.eq rfl) (.cons (.eq rfl) .nil))))) (.old rfl (BLe.refl _) (.old rfl (BLe.refl _) (.old rfl (BLe.rowW (Nat.le_refl _) (fun z hz => ?row)) .nil)))⟩; (case row => (match z, hz with | 0, _ => (repeat' ((conv => arg 1; whnf); (conv => arg 2; whnf); first | refine Wks.cons .refl ?_ | refine Wks.cons (.nsl rfl) ?_ | exact Wks.nil)))); (case hp => (rw [Bool.eq_iff_iff]; simp [InsP, ins_eq, hop, and_assoc, and_comm, and_left_comm]; done)))))
    refine ⟨_, rfl, Rel.bool ?_⟩
    simp only [decide_eq_true_eq, decide_eq_false_iff_not] at *
    symm; rw [decide_eq_false_iff_not]
    rintro (h | h | h | h | h | h | h) <;> omega
  rintro q hq τ hτ
  refine Zaz hτ ?_
  conv => whnf
  (repeat' first | refine Zad ?_ | (refine Zac tok (by rfl) ?_; conv => whnf))
  refine .inl ⟨_, _, _, uG (QC.fc (c_sameIns q.1 x) rfl), ?_⟩
  conv => whnf
  (repeat' (refine Zaj ?_; conv => whnf))
  refine ⟨_, rfl, Rel.bool ?_⟩
  rw [← hq]
  cases q.2 <;> rfl
end Go.Proofs.Ytmanpbgaihdalaa
namespace Go.Proofs.Ytmanpbgaihdalaa
open Go Dv
set_option maxRecDepth 10000
set_option linter.unusedSimpArgs false
theorem end_eq (u x : End) : u = x ↔ x.kind = u.kind ∧ x.a = u.a ∧ x.dst = u.dst ∧ x.f = u.f ∧ x.args = u.args ∧ x.to = u.to ∧ x.els = u.els ∧ x.pad = u.pad := by
  rw [eq_comm (a := u)]; cases u; cases x; simp
set_option maxHeartbeats 4000000 in
theorem c_lend (m : Za1) (f : Func) (x : End) : FC Try.prog 157 [.agg (encL m f), .agg (Zcg x)] (.bool (decide (EndP m f x))) := by
  refine Zay tok Try.func157 rfl (by decide +kernel) (Nat.le_of_ble_eq_true rfl) ?_
  (repeat' ((fail_if_success (show AWp _ _ _ (Code.region 3 _ _) _ _)); first | refine Zad ?_ | (refine Zac tok (by rfl) ?_; conv => whnf)))
  refine Zac tok (by rfl) ?_
  conv => whnf
  refine Zb1 (fun q : End × Bool => mkS [(2, .bp (2, 0, 0) 0), (3, .bp (3, 0, 0) 0), (4, .bool false), (5, .bp (5, 0, 0) 0), (6, .bool q.2)] [((2, 0, 0), Zan (encL m f)), ((3, 0, 0), Zan (Zcg x)), ((5, 0, 0), .row true 8 1 (fun _ => Zcg q.1))]) (fun q => (q.2 && decide (q.1 = x)) = decide (EndP m f x)) ?_ ?_
  · (repeat' first | refine Zad ?_ | (refine Zac tok (by rfl) ?_; conv => whnf) | (refine Za3 tok mix (by rfl) ?_; conv => whnf) | refine Zaf ?_ | (refine Zah ?_; conv => whnf) | (refine Zaj ?_; conv => whnf) | refine Zag rfl (fun hb => ?_) (fun hb => ?_))
    all_goals (try (exfalso; simp only [decide_eq_true_eq, decide_eq_false_iff_not] at *; omega))
    all_goals (repeat' first | (refine .inl ⟨_, _, _, uG (QC.fc (c_place m f x.dst) rfl), ?_⟩; conv => whnf) | (refine .inl ⟨_, _, _, uG (QC.fc (c_place m f x.a) rfl), ?_⟩; conv => whnf) | (refine .inl ⟨_, _, _, uG (QC.fc (c_lgoal m f x.to) rfl), ?_⟩; conv => whnf) | (refine .inl ⟨_, _, _, uG (QC.fc (c_lgoal m f x.els) rfl), ?_⟩; conv => whnf) | (refine .inl ⟨_, _, _, uG (QC.fc (c_landing m f x.pad) rfl), ?_⟩; conv => whnf) | (refine .inl ⟨_, _, _, uG (QC.fc (c_lcall m f x.f x.args) rfl), ?_⟩; conv => whnf))
    skip
    all_goals (have hop := hb; simp only [decide_eq_true_eq, decide_eq_false_iff_not] at hop)
    all_goals (try (first | (refine ⟨(⟨x.kind, x.a, 0, 0, [], 0, 0, 0⟩, inn x.a f.regs), ?hp, Weak.list [((2, 0, 0), .old (2, 0, 0), Zan (encL m f)), ((3, 0, 0), .old (3, 0, 0), Zan (Zcg x)), ((5, 0, 0), .old (5, 0, 0), .row true 8 1 (fun _ => Zcg ⟨x.kind, x.a, 0, 0, [], 0, 0, 0⟩))] rfl (by rfl) (.cons (.eq rfl) (.cons (.eq rfl) (.cons (.eq rfl) (.cons (.eq rfl) (.cons (.eq rfl) .nil))))) (.old rfl (BLe.refl _) (.old rfl (BLe.refl _) (.old rfl (BLe.rowW (Nat.le_refl _) (fun z hz => ?row)) .nil)))⟩; (case row => (match z, hz with | 0, _ => (repeat' ((conv => arg 1; whnf); (conv => arg 2; whnf); first | refine Wks.cons .refl ?_ | refine Wks.cons (.nsl rfl) ?_ | exact Wks.nil)))); (case hp => (rw [Bool.eq_iff_iff]; simp [EndP, end_eq, hop, landB, and_assoc, and_comm, and_left_comm]; done))) | (refine ⟨(⟨x.kind, 0, 0, 0, [], x.to, 0, 0⟩, goalB f x.to), ?hp, Weak.list [((2, 0, 0), .old (2, 0, 0), Zan (encL m f)), ((3, 0, 0), .old (3, 0, 0), Zan (Zcg x)), ((5, 0, 0), .old (5, 0, 0), .row true 8 1 (fun _ => Zcg ⟨x.kind, 0, 0, 0, [], x.to, 0, 0⟩))] rfl (by rfl) (.cons (.eq rfl) (.cons (.eq rfl) (.cons (.eq rfl) (.cons (.eq rfl) (.cons (.eq rfl) .nil))))) (.old rfl (BLe.refl _) (.old rfl (BLe.refl _) (.old rfl (BLe.rowW (Nat.le_refl _) (fun z hz => ?row)) .nil)))⟩; (case row => (match z, hz with | 0, _ => (repeat' ((conv => arg 1; whnf); (conv => arg 2; whnf); first | refine Wks.cons .refl ?_ | refine Wks.cons (.nsl rfl) ?_ | exact Wks.nil)))); (case hp => (rw [Bool.eq_iff_iff]; simp [EndP, end_eq, hop, landB, and_assoc, and_comm, and_left_comm]; done))) | (refine ⟨(⟨x.kind, x.a, 0, 0, [], x.to, x.els, 0⟩, bif bif inn x.a f.regs then goalB f x.to else false then goalB f x.els else false), ?hp, Weak.list [((2, 0, 0), .old (2, 0, 0), Zan (encL m f)), ((3, 0, 0), .old (3, 0, 0), Zan (Zcg x)), ((5, 0, 0), .old (5, 0, 0), .row true 8 1 (fun _ => Zcg ⟨x.kind, x.a, 0, 0, [], x.to, x.els, 0⟩))] rfl (by rfl) (.cons (.eq rfl) (.cons (.eq rfl) (.cons (.eq rfl) (.cons (.eq rfl) (.cons (.eq rfl) .nil))))) (.old rfl (BLe.refl _) (.old rfl (BLe.refl _) (.old rfl (BLe.rowW (Nat.le_refl _) (fun z hz => ?row)) .nil)))⟩; (case row => (match z, hz with | 0, _ => (repeat' ((conv => arg 1; whnf); (conv => arg 2; whnf); first | refine Wks.cons .refl ?_ | refine Wks.cons (.nsl rfl) ?_ | exact Wks.nil)))); (case hp => (rw [Bool.eq_iff_iff]; simp [EndP, end_eq, hop, landB, and_assoc, and_comm, and_left_comm]; done))) | (refine ⟨(⟨x.kind, 0, x.dst, x.f, x.args, x.to, 0, x.pad⟩, bif bif bif inn x.dst f.regs then argsB m f x.f x.args else false then goalB f x.to else false then landB f x.pad else false), ?hp, Weak.list [((2, 0, 0), .old (2, 0, 0), Zan (encL m f)), ((3, 0, 0), .old (3, 0, 0), Zan (Zcg x)), ((5, 0, 0), .old (5, 0, 0), .row true 8 1 (fun _ => Zcg ⟨x.kind, 0, x.dst, x.f, x.args, x.to, 0, x.pad⟩))] rfl (by rfl) (.cons (.eq rfl) (.cons (.eq rfl) (.cons (.eq rfl) (.cons (.eq rfl) (.cons (.eq rfl) .nil))))) (.old rfl (BLe.refl _) (.old rfl (BLe.refl _) (.old rfl (BLe.rowW (Nat.le_refl _) (fun z hz => ?row)) .nil)))⟩; (case row => (match z, hz with | 0, _ => (repeat' ((conv => arg 1; whnf); (conv => arg 2; whnf); first | refine Wks.cons .refl ?_ | exact Wks.nil)))); (case hp => (rw [Bool.eq_iff_iff]; simp [EndP, end_eq, hop, landB, and_assoc, and_comm, and_left_comm]; done))) | (refine ⟨(⟨x.kind, 0, 0, 0, [], 0, 0, 0⟩, true), ?hp, Weak.list [((2, 0, 0), .old (2, 0, 0), Zan (encL m f)), ((3, 0, 0), .old (3, 0, 0), Zan (Zcg x)), ((5, 0, 0), .old (5, 0, 0), .row true 8 1 (fun _ => Zcg ⟨x.kind, 0, 0, 0, [], 0, 0, 0⟩))] rfl (by rfl) (.cons (.eq rfl) (.cons (.eq rfl) (.cons (.eq rfl) (.cons (.eq rfl) (.cons (.eq rfl) .nil))))) (.old rfl (BLe.refl _) (.old rfl (BLe.refl _) (.old rfl (BLe.rowW (Nat.le_refl _) (fun z hz => ?row)) .nil)))⟩; (case row => (match z, hz with | 0, _ => (repeat' ((conv => arg 1; whnf); (conv => arg 2; whnf); first | refine Wks.cons .refl ?_ | refine Wks.cons (.nsl rfl) ?_ | exact Wks.nil)))); (case hp => (rw [Bool.eq_iff_iff]; simp [EndP, end_eq, hop, landB, and_assoc, and_comm, and_left_comm]; done)))))
    refine ⟨_, rfl, Rel.bool ?_⟩
    simp only [decide_eq_true_eq, decide_eq_false_iff_not] at *
    symm; rw [decide_eq_false_iff_not]
    rintro (h | h | h | h | h) <;> omega
  rintro q hq τ hτ
  refine Zaz hτ ?_
  conv => whnf
  (repeat' first | refine Zad ?_ | (refine Zac tok (by rfl) ?_; conv => whnf))
  refine .inl ⟨_, _, _, uG (QC.fc (c_sameEnd q.1 x) rfl), ?_⟩
  conv => whnf
  (repeat' (refine Zaj ?_; conv => whnf))
  refine ⟨_, rfl, Rel.bool ?_⟩
  rw [← hq]
  cases q.2 <;> rfl
end Go.Proofs.Ytmanpbgaihdalaa
namespace Go.Proofs.Ytmanpbgaihdalaa
open Go Dv
set_option maxRecDepth 10000
set_option linter.unusedSimpArgs false
theorem c_IdxInsM {g : FuncId} {cap : List AV} {p : Ins → Bool} (hi : Zck cap = true) (l : List Ins) (hg : ∀ i, i < l.length → FC Try.prog g (.agg (Zbd (l.getD i default)) :: cap) (.bool (p (l.getD i default)))) : FC Try.prog 122 [inss l, .fn g cap] (iv (idxG p l)) := by
  refine Zay tok Try.func122 rfl (by decide +kernel) (Nat.le_of_ble_eq_true rfl) ?_
  refine Zat 0 (fun hl => ?_)
  have hl0 : l.length ≤ maxL := hl.1
  (repeat' first | refine Zad ?_ | (refine Zac tok (by rfl) ?_; conv => whnf) | refine Zaf ?_)
  refine Zas (fun i : Nat => mkS [(0, inss l), (1, .fn g cap), (7, iv l.length), (8, iv i)] [])
    (fun i => i ≤ l.length ∧ ∀ j, j < i → p (l.getD j default) = false) (fun i => l.length - i) 0 ⟨Nat.zero_le _, by simp⟩ ?_ ?_
  · refine Weak.list [] rfl (by rfl) ?_ .nil
    ((repeat' first | exact TLes.nil | refine TLes.cons (TLe.eq rfl) ?_ | refine TLes.cons (TLe.fn (by assumption)) ?_); skip)
  rintro i ⟨hi2, hc⟩
  ((repeat' first | refine Zad ?_ | (refine Zac tok (by rfl) ?_; conv => whnf) | refine Zaf ?_ | (refine Zah ?_; conv => whnf) | (refine Zar ?_; conv => whnf) | (refine Zaj ?_; conv => whnf) | (refine (Zcl _ _).mpr ?_; conv => whnf) | refine Zag rfl (fun hb => ?_) (fun hb => ?_) | (refine @And.intro (Zaa _ _ _ _) _ ?_ ?_; rotate_left; (conv => whnf); rotate_right)); all_goals (try ((guard_target = Zaa _ _ _ _); refine Zae ?_; (all_goals (try simp only [Zaa, kzz, kz11, kz12, maxL, Zab] at *)); all_goals omega)))
  · have hlt : i < l.length := by simp only [Zaa, kzz, kz11, kz12, maxL, Zab] at *; omega
    refine .inl ⟨_, _, _, uG (QC.fc (hg (i : Int).toNat hlt) (immDs_app (xs := [.agg (Zbd (l.getD (i : Int).toNat default))]) rfl hi)), ?_⟩
    conv => whnf
    (repeat' first | refine Zad ?_ | (refine Zac tok (by rfl) ?_; conv => whnf) | (refine Zah ?_; conv => whnf) | (refine Zaj ?_; conv => whnf) | refine Zag rfl (fun hb => ?_) (fun hb => ?_))
    · refine ⟨_, rfl, Rel.int ?_⟩
      exact (idxG_at default hlt hc (by simpa using hb)).symm
    · refine ⟨i + 1, ⟨hlt, fun j hj => ?_⟩, by omega, ?_⟩
      · by_cases e : j = i
        · subst e; simpa using hb
        · exact hc j (by omega)
      refine Weak.list [] rfl (by rfl) ?_ .nil
      ((repeat' first | exact TLes.nil | refine TLes.cons (TLe.eq rfl) ?_ | refine TLes.cons (TLe.int ?_) ?_ | refine TLes.cons (TLe.fn (by assumption)) ?_); (all_goals first | ((try (simp only [Zaa, kzz, kz11, kz12, maxL, Zab] at *)); exact Zal (by omega) (by omega)) | skip))
  · refine ⟨_, rfl, Rel.int ?_⟩
    exact (idxG_none default (fun j hj => hc j (by simp only [Zaa, kzz, kz11, kz12, maxL, Zab] at *; omega))).symm
theorem c_HasInsM {g : FuncId} {cap : List AV} {p : Ins → Bool} (hi : Zck cap = true) (l : List Ins) (hg : ∀ i, i < l.length → FC Try.prog g (.agg (Zbd (l.getD i default)) :: cap) (.bool (p (l.getD i default)))) : FC Try.prog 85 [inss l, .fn g cap] (.bool (l.any p)) := by
  refine Zay tok Try.func85 rfl (by decide +kernel) (Nat.le_of_ble_eq_true rfl) ?_
  (repeat' first | refine Zad ?_ | (refine Zac tok (by rfl) ?_; conv => whnf) | (refine (Zcl _ _).mpr ?_; conv => whnf))
  refine .inl ⟨_, _, _, uG (QC.fc (c_IdxInsM hi l hg) (show Zck [inss l, AV.fn g cap] = true from by simp [Zck, immD, inss, hi])), ?_⟩
  conv => whnf
  (repeat' (refine Zaj ?_; conv => whnf))
  refine ⟨_, rfl, Rel.bool ?_⟩
  rw [← idxG_any]
theorem c_IdxFuncM {g : FuncId} {cap : List AV} {p : Func → Bool} (hi : Zck cap = true) (l : List Func) (hg : ∀ i, i < l.length → FC Try.prog g (.agg (Zai (l.getD i default)) :: cap) (.bool (p (l.getD i default)))) : FC Try.prog 128 [funcss l, .fn g cap] (iv (idxG p l)) := by
  refine Zay tok Try.func128 rfl (by decide +kernel) (Nat.le_of_ble_eq_true rfl) ?_
  refine Zat 0 (fun hl => ?_)
  have hl0 : l.length ≤ maxL := hl.1
  (repeat' first | refine Zad ?_ | (refine Zac tok (by rfl) ?_; conv => whnf) | refine Zaf ?_)
  refine Zas (fun i : Nat => mkS [(0, funcss l), (1, .fn g cap), (7, iv l.length), (8, iv i)] [])
    (fun i => i ≤ l.length ∧ ∀ j, j < i → p (l.getD j default) = false) (fun i => l.length - i) 0 ⟨Nat.zero_le _, by simp⟩ ?_ ?_
  · refine Weak.list [] rfl (by rfl) ?_ .nil
    ((repeat' first | exact TLes.nil | refine TLes.cons (TLe.eq rfl) ?_ | refine TLes.cons (TLe.fn (by assumption)) ?_); skip)
  rintro i ⟨hi2, hc⟩
  ((repeat' first | refine Zad ?_ | (refine Zac tok (by rfl) ?_; conv => whnf) | refine Zaf ?_ | (refine Zah ?_; conv => whnf) | (refine Zar ?_; conv => whnf) | (refine Zaj ?_; conv => whnf) | (refine (Zcl _ _).mpr ?_; conv => whnf) | refine Zag rfl (fun hb => ?_) (fun hb => ?_) | (refine @And.intro (Zaa _ _ _ _) _ ?_ ?_; rotate_left; (conv => whnf); rotate_right)); all_goals (try ((guard_target = Zaa _ _ _ _); refine Zae ?_; (all_goals (try simp only [Zaa, kzz, kz11, kz12, maxL, Zab] at *)); all_goals omega)))
  · have hlt : i < l.length := by simp only [Zaa, kzz, kz11, kz12, maxL, Zab] at *; omega
    refine .inl ⟨_, _, _, uG (QC.fc (hg (i : Int).toNat hlt) (immDs_app (xs := [.agg (Zai (l.getD (i : Int).toNat default))]) rfl hi)), ?_⟩
    conv => whnf
    (repeat' first | refine Zad ?_ | (refine Zac tok (by rfl) ?_; conv => whnf) | (refine Zah ?_; conv => whnf) | (refine Zaj ?_; conv => whnf) | refine Zag rfl (fun hb => ?_) (fun hb => ?_))
    · refine ⟨_, rfl, Rel.int ?_⟩
      exact (idxG_at default hlt hc (by simpa using hb)).symm
    · refine ⟨i + 1, ⟨hlt, fun j hj => ?_⟩, by omega, ?_⟩
      · by_cases e : j = i
        · subst e; simpa using hb
        · exact hc j (by omega)
      refine Weak.list [] rfl (by rfl) ?_ .nil
      ((repeat' first | exact TLes.nil | refine TLes.cons (TLe.eq rfl) ?_ | refine TLes.cons (TLe.int ?_) ?_ | refine TLes.cons (TLe.fn (by assumption)) ?_); (all_goals first | ((try (simp only [Zaa, kzz, kz11, kz12, maxL, Zab] at *)); exact Zal (by omega) (by omega)) | skip))
  · refine ⟨_, rfl, Rel.int ?_⟩
    exact (idxG_none default (fun j hj => hc j (by simp only [Zaa, kzz, kz11, kz12, maxL, Zab] at *; omega))).symm
theorem c_HasFuncM {g : FuncId} {cap : List AV} {p : Func → Bool} (hi : Zck cap = true) (l : List Func) (hg : ∀ i, i < l.length → FC Try.prog g (.agg (Zai (l.getD i default)) :: cap) (.bool (p (l.getD i default)))) : FC Try.prog 103 [funcss l, .fn g cap] (.bool (l.any p)) := by
  refine Zay tok Try.func103 rfl (by decide +kernel) (Nat.le_of_ble_eq_true rfl) ?_
  (repeat' first | refine Zad ?_ | (refine Zac tok (by rfl) ?_; conv => whnf) | (refine (Zcl _ _).mpr ?_; conv => whnf))
  refine .inl ⟨_, _, _, uG (QC.fc (c_IdxFuncM hi l hg) (show Zck [funcss l, AV.fn g cap] = true from by simp [Zck, immD, funcss, hi])), ?_⟩
  conv => whnf
  (repeat' (refine Zaj ?_; conv => whnf))
  refine ⟨_, rfl, Rel.bool ?_⟩
  rw [← idxG_any]
theorem c_HasIns {g : FuncId} {cap : List AV} {p : Ins → Bool} (hi : Zck cap = true) (hg : ∀ x, FC Try.prog g (.agg (Zbd x) :: cap) (.bool (p x))) (l : List Ins) : FC Try.prog 85 [inss l, .fn g cap] (.bool (l.any p)) := c_HasInsM hi l (fun i _ => hg _)
theorem c_HasFunc {g : FuncId} {cap : List AV} {p : Func → Bool} (hi : Zck cap = true) (hg : ∀ x, FC Try.prog g (.agg (Zai x) :: cap) (.bool (p x))) (l : List Func) : FC Try.prog 103 [funcss l, .fn g cap] (.bool (l.any p)) := c_HasFuncM hi l (fun i _ => hg _)
end Go.Proofs.Ytmanpbgaihdalaa
namespace Go.Proofs.Ytmanpbgaihdalaa
open Go Dv
set_option maxRecDepth 10000
set_option linter.unusedSimpArgs false
theorem c_lblk1 (m : Za1) (f : Func) (x : Ins) : FC Try.prog 158 [.agg (Zbd x), .ip (encL m f)] (.bool (!decide (InsP m f x))) := by
  refine Zay tok Try.func158 rfl (by decide +kernel) (Nat.le_of_ble_eq_true rfl) ?_
  (repeat' first | refine Zad ?_ | (refine Zac tok (by rfl) ?_; conv => whnf))
  refine .inl ⟨_, _, _, uG (QC.fc (c_lins m f x) rfl), ?_⟩
  conv => whnf
  (repeat' (refine Zaj ?_; conv => whnf))
  exact ⟨_, rfl, Rel.imm rfl⟩
def LPad : Prop := ∀ (m : Za1) (f : Func) (b : Zbk), FC Try.prog 156 [.agg (encL m f), .agg (Zam b)] (.bool (decide (PadP f b)))
theorem c_lblock (hpad : LPad) (m : Za1) (f : Func) (n : Nat) (hn : n < f.blocks.length) : FC Try.prog 134 [.agg (encL m f), iv n] (.bool (blkB m f (f.blocks.getD n default))) := by
  refine Zay tok Try.func134 rfl (by decide +kernel) (Nat.le_of_ble_eq_true rfl) ?_
  ((repeat' ((fail_if_success (show AWp _ _ _ (Code.region 2 _ _) _ _)); first | refine Zad ?_ | (refine Zac tok (by rfl) ?_; conv => whnf) | (refine @And.intro (Zaa _ _ _ _) _ ?_ ?_; rotate_left; (conv => whnf); rotate_right))); all_goals (try ((guard_target = Zaa _ _ _ _); refine Zae ?_; all_goals omega)))
  have hget : f.blocks.getD (n : Int).toNat default = f.blocks.getD n default := by simp
  generalize f.blocks.getD n default = b at hget ⊢
  refine Zaz (Weak.list (tl := [(2, .bp (2, 0, 0) 0), (4, .bool false), (5, .bp (5, 0, 0) 0)]) [((2, 0, 0), .old (2, 0, 0), Zan (encL m f)), ((5, 0, 0), .old (5, 0, 0), .row true 14 1 (fun _ => Zam b))] rfl (by rfl) ?_ (.old rfl (BLe.refl _) (.old rfl (BLe.rowW (Nat.le_refl _) (fun z hz => ?_)) .nil))) ?_
  · ((repeat' first | exact TLes.nil | refine TLes.cons (TLe.eq rfl) ?_); skip)
  · match z, hz with
    | 0, _ => rw [← hget]; exact Wks.of rfl
  (repeat' (refine Zac tok (by rfl) ?_; conv => whnf))
  refine .inl ⟨_, _, _, uG (QC.fc (hpad m f b) rfl), ?_⟩
  conv => whnf
  skip
  refine .inl ⟨_, _, _, uG (QC.fc (c_lend m f b.fin) rfl), ?_⟩
  conv => whnf
  skip
  have hh := c_HasIns (g := 158) (cap := [.ip (encL m f)]) (p := fun x => !decide (InsP m f x)) rfl (fun x => c_lblk1 m f x) b.ins
  refine .inl ⟨_, _, _, uG (QC.sc (rd := [(2, 0, 0)]) hh (.cons (.imm rfl) (.cons (.fn (.cons (.ip rfl (List.mem_singleton.2 rfl) (by decide) (Ress.imms rfl)) .nil)) .nil)) rfl), ?_⟩
  conv => whnf
  (repeat' (refine Zaj ?_; conv => whnf))
  refine ⟨_, rfl, Rel.bool ?_⟩
  unfold blkB
  rw [List.not_any_eq_all_not, Bool.eq_iff_iff]
  have hc : decide ((b.ins.length : Int) ≤ 64) = decide (b.ins.length ≤ 64) := by rw [decide_eq_decide]; omega
  rw [hc]
  simp [and_assoc]
end Go.Proofs.Ytmanpbgaihdalaa
namespace Go.Proofs.Ytmanpbgaihdalaa
open Go Dv
set_option maxRecDepth 10000
set_option linter.unusedSimpArgs false
theorem c_lFunc (hpad : LPad) (m : Za1) (f : Func) : FC Try.prog 105 [.agg (Zax m), .agg (Zai f)] (.bool (Zfv m f)) := by
  refine Zay tok Try.func105 rfl (by decide +kernel) (Nat.le_of_ble_eq_true rfl) ?_
  refine Zat 1 (fun hl => ?_)
  have hl0 : f.blocks.length ≤ maxL := hl.2.2.1.1
  ((repeat' first | refine Zad ?_ | (refine Zac tok (by rfl) ?_; conv => whnf) | refine Zaf ?_ | (refine Zah ?_; conv => whnf) | (refine Zaj ?_; conv => whnf) | refine Zag rfl (fun hb => ?_) (fun hb => ?_) | (refine @And.intro (Zaa _ _ _ _) _ ?_ ?_; rotate_left; (conv => whnf); rotate_right)); all_goals (try ((guard_target = Zaa _ _ _ _); ((refine Za9 ?_; intro hgd; (conv at hgd => whnf))); (all_goals (try simp only [Zaa, kzz, kz11, kz12, maxL, Zab] at *)); all_goals omega)))
  · refine ⟨_, rfl, Rel.bool ?_⟩
    rw [show Int.toNat 0 = 0 from rfl] at hb
    unfold Zfv
    have hF : decide (FunP f) = false := by
      rw [decide_eq_false_iff_not]; intro h; unfold FunP at h
      rw [h.2.2.2.2.2.2] at hb; simp [-List.length_eq_zero_iff] at hb; omega
    rw [hF]; rfl
  have hF : FunP f := by
    rw [show Int.toNat 0 = 0 from rfl] at hb
    unfold FunP
    cases hland : (f.blocks.getD 0 default).landing with
    | true => rw [hland] at hb; simp at hb
    | false => rw [hland] at hb; simp [-List.length_eq_zero_iff] at hb; refine ⟨?_, ?_, ?_, ?_, ?_, ?_, rfl⟩ <;> omega
  clear hb
  refine Zas (fun i : Nat => mkS [(4, .bool false), (5, .bp (5, 0, 0) 0), (51, iv f.blocks.length), (52, iv i)] [((5, 0, 0), .row true 4 1 (fun _ => encL m f))])
    (fun i => i ≤ f.blocks.length ∧ ∀ j, j < i → blkB m f (f.blocks.getD j default) = true) (fun i => f.blocks.length - i) 0 ⟨Nat.zero_le _, by simp⟩ ?_ ?_
  · refine Weak.list [((5, 0, 0), .old (5, 0, 0), .row true 4 1 (fun _ => encL m f))] rfl (by rfl) ?_ (.old rfl (BLe.rowW (Nat.le_refl _) (fun z hz => ?_)) .nil)
    · ((repeat' first | exact TLes.nil | refine TLes.cons (TLe.eq rfl) ?_); skip)
    · match z, hz with
      | 0, _ => exact Wks.of rfl
  rintro i ⟨hi, hc⟩
  (repeat' first | refine Zad ?_ | (refine Zac tok (by rfl) ?_; conv => whnf) | refine Zaf ?_ | (refine Zah ?_; conv => whnf) | (refine Zar ?_; conv => whnf) | (refine Zaj ?_; conv => whnf) | refine Zag rfl (fun hb => ?_) (fun hb => ?_))
  · have hlt : i < f.blocks.length := by simp only [Zaa, kzz, kz11, kz12, maxL, Zab] at *; omega
    refine .inl ⟨_, _, _, uG (QC.fc (c_lblock hpad m f i hlt) rfl), ?_⟩
    conv => whnf
    (repeat' first | refine Zad ?_ | (refine Zac tok (by rfl) ?_; conv => whnf) | (refine Zah ?_; conv => whnf) | (refine Zaj ?_; conv => whnf) | refine Zag rfl (fun hb => ?_) (fun hb => ?_))
    · refine ⟨_, rfl, Rel.bool ?_⟩
      unfold Zfv
      rw [all_no default hlt (p := blkB m f) (by simpa using hb)]
      simp
    · refine ⟨i + 1, ⟨hlt, fun j hj => ?_⟩, by omega, ?_⟩
      · by_cases e : j = i
        · subst e; simpa using hb
        · exact hc j (by omega)
      refine Weak.list [((5, 0, 0), .old (5, 0, 0), .row true 4 1 (fun _ => encL m f))] rfl (by rfl) ?_ (.old rfl (BLe.refl _) .nil)
      ((repeat' first | exact TLes.nil | refine TLes.cons (TLe.eq rfl) ?_ | refine TLes.cons (TLe.int ?_) ?_); (all_goals first | ((try (simp only [Zaa, kzz, kz11, kz12, maxL, Zab] at *)); exact Zal (by omega) (by omega)) | skip))
  · refine ⟨_, rfl, Rel.bool ?_⟩
    unfold Zfv
    rw [decide_eq_true hF, all_yes default (fun j hj => hc j (by simp only [Zaa, kzz, kz11, kz12, maxL, Zab] at *; omega))]; rfl
theorem c_lRight1 (hpad : LPad) (m : Za1) (f : Func) : FC Try.prog 104 [.agg (Zai f), .ip (Zax m)] (.bool (!Zfv m f)) := by
  refine Zay tok Try.func104 rfl (by decide +kernel) (Nat.le_of_ble_eq_true rfl) ?_
  (repeat' first | refine Zad ?_ | (refine Zac tok (by rfl) ?_; conv => whnf))
  refine .inl ⟨_, _, _, uG (QC.fc (c_lFunc hpad m f) rfl), ?_⟩
  conv => whnf
  (repeat' (refine Zaj ?_; conv => whnf))
  exact ⟨_, rfl, Rel.imm rfl⟩
theorem c_lRight (hpad : LPad) (m : Za1) : FC Try.prog 62 [.agg (Zax m)] (.bool (Zc0 m)) := by
  refine Zay tok Try.func62 rfl (by decide +kernel) (Nat.le_of_ble_eq_true rfl) ?_
  refine Zat 0 (fun hl => ?_)
  have hl0 : m.funcs.length ≤ maxL := hl.1.1
  ((repeat' first | refine Zad ?_ | (refine Zac tok (by rfl) ?_; conv => whnf) | (refine Zah ?_; conv => whnf) | (refine Zaj ?_; conv => whnf) | refine Zag rfl (fun hb => ?_) (fun hb => ?_) | (refine @And.intro (Zaa _ _ _ _) _ ?_ ?_; rotate_left; (conv => whnf); rotate_right)); all_goals (try ((guard_target = Zaa _ _ _ _); ((refine Za9 ?_; intro hgd; (conv at hgd => whnf))); (all_goals (try simp only [Zaa, kzz, kz11, kz12, maxL, Zab] at *)); all_goals omega)))
  · refine ⟨_, rfl, Rel.bool ?_⟩
    rw [show Int.toNat 0 = 0 from rfl] at hb
    unfold Zc0
    rw [decide_eq_false]
    · rfl
    · rintro ⟨h1, h2, h3⟩
      rw [h3] at hb; simp [-List.length_eq_zero_iff] at hb; omega
  have hF : 1 ≤ m.funcs.length ∧ m.funcs.length ≤ 16 ∧ (m.funcs.getD 0 default).params = 0 := by
    rw [show Int.toNat 0 = 0 from rfl] at hb
    simp only [Bool.cond_true_left, Bool.or_eq_false_iff] at hb
    refine ⟨?_, ?_, by simpa using hb.2⟩ <;> simp only [Zaa, kzz, kz11, kz12, maxL, Zab] at * <;> omega
  clear hb
  refine .inl ⟨_, _, _, uG (QC.sc (rd := [(1, 0, 0)]) (c_HasFunc (g := 104) (cap := [.ip (Zax m)]) (p := fun f => !Zfv m f) rfl (fun f => c_lRight1 hpad m f) m.funcs) (.cons (.imm rfl) (.cons (.fn (.cons (.ip rfl (List.mem_singleton.2 rfl) (by decide) (Ress.imms rfl)) .nil)) .nil)) rfl), ?_⟩
  conv => whnf
  (repeat' (refine Zaj ?_; conv => whnf))
  refine ⟨_, rfl, Rel.bool ?_⟩
  unfold Zc0
  rw [List.not_any_eq_all_not, decide_eq_true hF]
  simp
end Go.Proofs.Ytmanpbgaihdalaa
namespace Go.Proofs.Ytmanpbgaihdalaa
open Go Dv Go.RowKit Go.Maps Go.Sort Go.Shelf
set_option linter.unusedSimpArgs false
@[go_sem, reducible] def encU (k : Int) : Value := .int .u16 k
def SeqU (F : Fence) (n : Nat) (g : Nat) (lb : Array Value) (S : List Int → Prop) (N : Nat) (w : World) : Prop :=
  ∀ (l : Nat) (J : List Int → World → Prop) (W : World), RowKit.Below w.heap.size w W → (∀ pre W', J pre W' → RowKit.Below w.heap.size w W') →
    (∀ pre x W', J pre W' → pre.length < N → YieldAt F (n - 1) Try.prog l #[encU x] W' fun e W2 => e = .returned (.bool true) ∧ J (pre ++ [x]) W2 ∧ KeepsWalks W' W2) → J [] W →
    CallsIn F n Try.prog g (#[.func (.yield l) #[] #[]] ++ lb) W fun e W' => (∃ v, e = .returned v) ∧ ∃ ss, S ss ∧ J ss W'
def Sq.apAssign : Code := (Code.region 2 #[{ dst := some 5, op := Op.assign (Operand.tmp 7), type := 55, pos := "iter.go:51", after := #[], guard := none }] false)
def Sq.apBody : Code := (Code.block 1 (Code.region 3 #[{ dst := some 8, op := Op.load 37 (Operand.tmp 2), type := 37, pos := "iter.go:52", after := #[], guard := none }, { dst := some 9, op := Op.move (Operand.tmp 5), type := 55, pos := "iter.go:52", after := #[], guard := none }, { dst := some 10, op := Op.buildSlice 37 1 #[(0, Operand.tmp 9)], type := 37, pos := "iter.go:52", after := #[{ on := 1, ground := Ground.data }], guard := none }, { dst := some 11, op := Op.call { callee := Callee.builtin Builtin.append, args := #[Operand.tmp 8, Operand.tmp 10], argTypes := #[37, 37] }, type := 37, pos := "iter.go:52", after := #[{ on := 0, ground := Ground.data }, { on := 2, ground := Ground.data }], guard := none }, { dst := none, op := Op.store 37 (Operand.tmp 2) (Operand.tmp 11), type := 0, pos := "iter.go:52", after := #[{ on := 3, ground := Ground.data }, { on := 3, ground := Ground.chain }, { on := 0, ground := Ground.phase }, { on := 1, ground := Ground.phase }, { on := 2, ground := Ground.phase }, { on := 3, ground := Ground.phase }], guard := none }] false))
def Sq.apRec (fn : FuncId) (sv : Value) (Bs D : Nat) (st : LoopState) (pend : Option Code) : Loop :=
  { state := st, pending := pend, fn, tmps := #[.slice none 0 0, sv, .pointer (some ⟨Bs, 0, none⟩), undef, .slice none 0 0, undef, sv, undef, undef, undef, undef, undef, undef], params := #[7], assign := Sq.apAssign, body := Sq.apBody, defers := D }
structure Sq.ApAt (w0 : World) (fn : FuncId) (sv : Value) (Bs l D : Nat) (ss : List Int) (W : World) : Prop where
  box : ∃ v, W.heap[Bs]? = some (.cells #[v] 37 (0, 0)) ∧ W.ownsRow w0.heap.size 55 1 v ss.length (ss.map encU) ∧ (v = .slice none 0 0 ↔ ss = [])
  L : W.heap[l]? = some (.loop (Sq.apRec fn sv Bs D .ready none))
  K : W.heap[D]? = some (.deferred (some []))
  below : Below w0.heap.size w0 W
theorem Zcr (W : World) (l : Nat) (o : Obj) : W.grownBy (W.putObj l o) (some l) :=
  ⟨rfl, rfl, rfl, by simp, fun k _ hk => World.putObj_heap_other (fun e => hk (by rw [e]))⟩
theorem grownBy_setCell0 (W : World) (b : Nat) (v : Value) : W.grownBy (W.setCell ⟨b, 0, none⟩ v) (some b) :=
  ⟨rfl, rfl, rfl, (KeepsWalks.setCell W _ v).size, fun k _ hk => Below.heap_setCell _ _ _ k (fun e => hk (by rw [e]))⟩
theorem Zel {W : World} {base : Nat} {e : TypeId} {size : Nat} {v : Value} {k : Nat} {xs : List Value} (h : W.ownsRow base e size v k xs) {j : Nat} {o : Obj} (hj : W.heap[j]? = some o) (hno : ∀ cur, o ≠ .cells cur e (0, 0)) :
    v.ownBlock = none ∨ v.ownBlock ≠ some j := by
  rcases h.2 with ⟨rfl, _⟩ | ⟨g, cap, cur, rfl, _, hgb, _⟩
  · exact .inl rfl
  · refine .inr fun e' => ?_
    have : g = j := by simpa [Value.ownBlock] using e'
    subst this; rw [hgb] at hj; cases hj; exact hno cur rfl
theorem cell_of_box {W : World} {B : Nat} {v : Value} {t : TypeId} (h : W.heap[B]? = some (.cells #[v] t (0, 0))) : W.cell? ⟨B, 0, none⟩ = some v ∧ W.frozen? ⟨B, 0, none⟩ = false := by
  constructor <;> simp [World.cell?, World.frozen?, h]
theorem heap_setCell_box {W : World} {B : Nat} {v : Value} {t : TypeId} (v' : Value) (h : W.heap[B]? = some (.cells #[v] t (0, 0))) : (W.setCell ⟨B, 0, none⟩ v').heap[B]? = some (.cells #[v'] t (0, 0)) := by
  obtain ⟨hlt, hk⟩ := Array.getElem?_eq_some_iff.1 h
  show (W.heap.modify B _)[B]? = _
  rw [Array.getElem?_eq_getElem (by rw [Array.size_modify]; exact hlt), Array.getElem_modify_self, hk]
  rfl
theorem ownsRow_not_walk {W : World} {base : Nat} {e : TypeId} {size : Nat} {v : Value} {k : Nat} {xs : List Value} (h : W.ownsRow base e size v k xs) : ∀ (j : Nat) (o : Obj), v.ownBlock = some j → W.heap[j]? = some o → o.isWalk = false := by
  intro j o hj ho
  rcases h.2 with ⟨rfl, _⟩ | ⟨g, cap, cur, rfl, _, hgb, _⟩
  · simp [Value.ownBlock] at hj
  · have : g = j := by simpa [Value.ownBlock] using hj
    subst this; rw [hgb] at ho; cases ho; rfl
theorem Sq.info55 : (Try.prog.info? 55).map (fun i => (i.zero, i.size, i.bytes)) = some (some (.int .u16 0), 1, 2) := by kernel_rfl
set_option maxRecDepth 100000 in
set_option maxHeartbeats 2000000 in
theorem Sq.apYield (F : Fence) (m : Nat) (w0 : World) (fn : FuncId) (hfn : F.fn fn) (sv : Value) (Bs l D : Nat) (hBl : Bs ≠ l) (hDl : D ≠ l) (hDB : D ≠ Bs) (h0B : w0.heap.size ≤ Bs) (h0l : w0.heap.size ≤ l)
    (N : Nat) (hN : N ≤ maxLen) (hNb : N * 2 ≤ 140737488355328) (ss : List Int) (x : Int) (W : World) (h : Sq.ApAt w0 fn sv Bs l D ss W) (hlen : ss.length < N) :
    YieldAt F m Try.prog l #[encU x] W fun e W' => e = .returned (.bool true) ∧ Sq.ApAt w0 fn sv Bs l D (ss ++ [x]) W' ∧ KeepsWalks W W' := by
  obtain ⟨i0, hi, hz0, hz1, hz2⟩ := info_parts Sq.info55
  obtain ⟨v, hv, hrow, _⟩ := h.box
  refine ⟨fn, #[.slice none 0 0, sv, .pointer (some ⟨Bs, 0, none⟩), undef, .slice none 0 0, undef, sv, encU x, undef, undef, undef, undef, undef], Sq.apAssign, Sq.apBody, by simpa [Sq.apRec] using run_yield (P := Try.prog) (args := #[encU x]) h.L rfl, roundIn_of_wpIn hfn ?_⟩
  have hl : l < W.heap.size := (Array.getElem?_eq_some_iff.1 h.L).1
  have hbr := run_beginRound (P := Try.prog) h.L rfl
  obtain ⟨W2, hW2⟩ : ∃ W2, W.putObj l (.loop { Sq.apRec fn sv Bs D .ready none with state := .busy }) = W2 := ⟨_, rfl⟩
  rw [hW2] at hbr
  have hg2 : W.grownBy W2 (some l) := by rw [← hW2]; exact Zcr _ _ _
  have hk2 : KeepsWalks W W2 := by rw [← hW2]; exact KeepsWalks.putObj _ h.L rfl
  have hv2 : W2.heap[Bs]? = some (.cells #[v] 37 (0, 0)) := by rw [← hW2]; exact (World.putObj_heap_other hBl).trans hv
  have hK2 : W2.heap[D]? = some (.deferred (some [])) := by rw [← hW2]; exact (World.putObj_heap_other hDl).trans h.K
  have hL2 : W2.heap[l]? = some (.loop { Sq.apRec fn sv Bs D .ready none with state := .busy }) := by rw [← hW2]; exact World.putObj_heap_same hl
  have hrow2 : W2.ownsRow w0.heap.size 55 1 v ss.length (ss.map encU) := hrow.kept hg2 (Zel hrow h.L (fun cur e => by cases e))
  have hb2 : Below w0.heap.size w0 W2 := h.below.grown hg2 h.below.size (fun k e => by cases e; exact h0l)
  obtain ⟨hc2, hf2⟩ := cell_of_box hv2
  have hBlt : Bs < W2.heap.size := (Array.getElem?_eq_some_iff.1 hv2).1
  have hl2 : l < W2.heap.size := (Array.getElem?_eq_some_iff.1 hL2).1
  have hDlt : D < W2.heap.size := (Array.getElem?_eq_some_iff.1 hK2).1
  have ne_of : ∀ {j : Nat} {o : Obj}, W2.heap[j]? = some o → (∀ cur, o ≠ .cells cur 55 (0, 0)) → some j ≠ v.ownBlock := fun hj hno => by
    rcases Zel hrow2 hj hno with e | e
    · rw [e]; simp
    · exact fun e' => e e'.symm
  clear hW2
  unfold Sq.apAssign
  gi_wp2_with (rw [Oper.semAt_eq _ _ _ (fun c h => by cases h)]; go_simp; try go_bits)
  unfold Sq.apBody
  gi_wp2_with (first
    | (gi_at_builtin; refine wpListIn_append_own _ rfl _ _ 37 rfl w0.heap.size 55 i0 (.int .u16 0) 1 2 Try.underlying37 hi hz0 hz1 hz2 rfl (by decide) _ _ _ rfl (hrow2.alloc _) ⟨W2.heap.size, 0, none⟩ 1 1 [encU x] rfl rfl (cell_one_new _ _ _) (by simp [Value.oneCell', encU]) (by omega) (by omega) (by have := hb2.size; simp; omega) ?_; intro v' w3 hown' hg3 hnil3
       have hv3 : w3.heap[Bs]? = some (.cells #[v] 37 (0, 0)) := (hg3.block Bs (by simp; omega) (ne_of hv2 (fun cur e => by cases e))).trans ((Below.heap_alloc _ _ Bs hBlt).trans hv2)
       obtain ⟨hc3, hf3⟩ := cell_of_box hv3
       obtain ⟨g', cap', cur', rfl, hbase', hgb', hr1, hr2, hr3, hr4⟩ : ∃ g' cap' cur', v' = .slice (some ⟨g', 0, none⟩) (ss.length + 1) cap' ∧ w0.heap.size ≤ g' ∧ w3.heap[g']? = some (.cells cur' 55 (0, 0)) ∧ ss.length + 1 ≤ cap' ∧ cap' ≤ maxLen ∧ cur'.size = cap' * 1 ∧ cur'.toList.take ((ss.length + 1) * 1) = ss.map encU ++ [encU x] := by
         rcases hown'.2 with ⟨_, h0⟩ | h'
         · exact absurd h0 (by omega)
         · exact h'
       go_frame)
    | (rw [Oper.semAt_eq _ _ _ (fun c h => by cases h)]; go_simp; try go_bits))
  have hg3' : (W2.alloc (.cells #[encU x] 55)).grownBy w3 v.ownBlock := hg3
  have hL3 : w3.heap[l]? = some (.loop { Sq.apRec fn sv Bs D .ready none with state := .busy }) := (hg3'.block l (by simp; omega) (ne_of hL2 (fun cur e => by cases e))).trans ((Below.heap_alloc _ _ l hl2).trans hL2)
  have hK3 : w3.heap[D]? = some (.deferred (some [])) := (hg3'.block D (by simp; omega) (ne_of hK2 (fun cur e => by cases e))).trans ((Below.heap_alloc _ _ D hDlt).trans hK2)
  obtain ⟨w4, hw4⟩ : ∃ w4, w3.setCell ⟨Bs, 0, none⟩ (.slice (some ⟨g', 0, none⟩) (ss.length + 1) cap') = w4 := ⟨_, rfl⟩
  rw [hw4]
  have hg4 : w3.grownBy w4 (some Bs) := by rw [← hw4]; exact grownBy_setCell0 _ _ _
  have hv4 : w4.heap[Bs]? = some (.cells #[.slice (some ⟨g', 0, none⟩) (ss.length + 1) cap'] 37 (0, 0)) := by rw [← hw4]; exact heap_setCell_box _ hv3
  have hL4 : w4.heap[l]? = some (.loop { Sq.apRec fn sv Bs D .ready none with state := .busy }) := (hg4.block l (Array.getElem?_eq_some_iff.1 hL3).1 (fun e => hBl (by cases e; rfl))).trans hL3
  have hK4 : w4.heap[D]? = some (.deferred (some [])) := (hg4.block D (Array.getElem?_eq_some_iff.1 hK3).1 (fun e => hDB (by cases e; rfl))).trans hK3
  have hrow4 := hown'.kept hg4 (Zel hown' hv3 (fun cur e => by cases e))
  have hl4 : l < w4.heap.size := (Array.getElem?_eq_some_iff.1 hL4).1
  have hb3 : Below w0.heap.size w0 w3 := (hb2.alloc hb2.size _).grown hg3' (by have := hb2.size; simp; omega) (fun k e => (hrow2.lt k e).1)
  have hb4 : Below w0.heap.size w0 w4 := hb3.grown hg4 hb3.size (fun k e => by cases e; exact h0B)
  have hk4 : KeepsWalks W w4 := ((hk2.trans (KeepsWalks.alloc _ _)).trans (KeepsWalks.of_grownBy hg3' (ownsRow_not_walk (hrow2.alloc _)))).trans (by rw [← hw4]; exact KeepsWalks.setCell _ _ _)
  clear hw4
  refine ⟨_, _, run_endRound none hL4, rfl, ⟨⟨_, (World.putObj_heap_other hBl).trans hv4, ?_, by simp⟩, World.putObj_heap_same hl4, (World.putObj_heap_other hDl).trans hK4, hb4.grown (Zcr _ _ _) hb4.size (fun k e => by cases e; exact h0l)⟩, hk4.trans (KeepsWalks.putObj _ hL4 rfl)⟩
  have := hrow4.kept (Zcr w4 l (.loop { { Sq.apRec fn sv Bs D .ready none with state := .busy } with state := if (none : Option Code).isNone then .ready else .done, pending := none })) (Zel hrow4 hL4 (fun cur e => by cases e))
  simpa using this
set_option maxRecDepth 100000 in
set_option maxHeartbeats 2000000 in
theorem Sq.appendSeq_in (F : Fence) (n : Nat) (h11 : F.fn 181) (hro : F.round = none) (hn : 2 ≤ n) (g : Nat) (lb : Array Value) (hFg : F.fn g) (eg : ∀ args w, (callFunc g args).run Try.prog w = .ok (.enter g args) w)
    (S : List Int → Prop) (N : Nat) (hN : N ≤ maxLen) (hNb : N * 2 ≤ 140737488355328) (w : World) (hseq : SeqU F (n - 1) g lb S N w) :
    CallsIn F n Try.prog 181 #[.slice none 0 0, .func (.func g) #[] lb] w fun e w' => ∃ (v : Value) (ss : List Int), e = .returned v ∧ S ss ∧ w'.ownsRow w.heap.size 55 1 v ss.length (ss.map encU) ∧ (v = .slice none 0 0 ↔ ss = []) ∧ Below w.heap.size w w' := by
  have h1 : 1 ≤ n := by omega
  refine callsIn_of_wp_marks Try.func181 rfl h11 ?_ hro
  simp only [Try.ntmps181, List.size_toArray, List.length_cons, List.length_nil, Nat.reduceAdd, Nat.reduceSub, Array.replicate_succ, Array.replicate_zero, List.push_toArray, List.append_toArray, List.nil_append, List.cons_append]
  gi_wp2
  refine wpIn_rangeFunc ?_
  intro fn hfn
  rw [hro]
  obtain ⟨W0, hW0⟩ : ∃ W0, w.alloc (.cells #[.slice none 0 0] 37) = W0 := ⟨_, rfl⟩
  have hs0 : W0.heap.size = w.heap.size + 1 := by rw [← hW0]; simp
  have hv0 : W0.heap[w.heap.size]? = some (.cells #[.slice none 0 0] 37 (0, 0)) := by rw [← hW0]; exact World.alloc_heap_new w _
  have hb0 : Below w.heap.size w W0 := by rw [← hW0]; exact (Below.refl _ w).alloc (Nat.le_refl _) _
  rw [hW0]
  obtain ⟨W1, hW1⟩ : ∃ W1, (W0.alloc (.deferred (some []))).alloc (.loop (Sq.apRec fn (.func (.func g) #[] lb) w.heap.size W0.heap.size .ready none)) = W1 := ⟨_, rfl⟩
  have hold : ∀ k, k < W0.heap.size → W1.heap[k]? = W0.heap[k]? := fun k hk => by
    rw [← hW1]; exact (Below.heap_alloc _ _ k (by simp; omega)).trans (Below.heap_alloc _ _ k hk)
  have hb1 : Below w.heap.size w W1 := by rw [← hW1]; exact (hb0.alloc hb0.size _).alloc (by have := hb0.size; simp; omega) _
  have hs1 : W1.heap.size = W0.heap.size + 2 := by rw [← hW1]; simp
  have hM : Sq.ApAt w fn (.func (.func g) #[] lb) w.heap.size (W0.heap.size + 1) W0.heap.size [] W1 :=
    ⟨⟨_, (hold w.heap.size (by omega)).trans hv0, ⟨rfl, .inl ⟨rfl, rfl⟩⟩, by simp⟩,
     by rw [← hW1]; have := World.alloc_heap_new (W0.alloc (.deferred (some []))) (.loop (Sq.apRec fn (.func (.func g) #[] lb) w.heap.size W0.heap.size .ready none)); rwa [World.size_alloc] at this,
     by rw [← hW1]; exact (Below.heap_alloc _ _ _ (by simp)).trans (World.alloc_heap_new W0 _), hb1⟩
  refine ⟨W0.heap.size + 1, [{ target := .collected W0.heap.size, args := #[] }], W1, { target := .fn (.func g) lb, args := #[.func (.yield (W0.heap.size + 1)) #[] #[]] }, W1, g,
    #[.func (.yield (W0.heap.size + 1)) #[] #[]] ++ lb, W1, ?_, ?_, ?_, ?_, fun _ => h1, ?_⟩
  · rw [← hW1]; exact run_enterLoop_outer _ _ _ _ _
  · simp [resolve, go_sem]
  · intro f' hf'; simp [Target.leads] at hf'; subst hf'; exact hFg
  · simp [invoke, go_sem, eg]
  · refine (hseq (W0.heap.size + 1) (Sq.ApAt w fn (.func (.func g) #[] lb) w.heap.size (W0.heap.size + 1) W0.heap.size) W1 hb1 (fun _ _ h => h.below)
      (fun pre x W hJ hl => Sq.apYield F (n - 1 - 1) w fn hfn _ w.heap.size (W0.heap.size + 1) W0.heap.size (by omega) (by omega) (by omega) (Nat.le_refl _) (by omega) N hN hNb pre x W hJ hl) hM).mono ?_
    rintro e W2 ⟨⟨v0, rfl⟩, ss, hS, h2⟩
    obtain ⟨v, hv, hrow, hnil⟩ := h2.box
    have hend := run_endLoop (P := Try.prog) h2.L (by simp [Sq.apRec])
    obtain ⟨W3, hW3⟩ : ∃ W3, W2.putObj (W0.heap.size + 1) (.loop { Sq.apRec fn (.func (.func g) #[] lb) w.heap.size W0.heap.size .ready none with state := .exhausted }) = W3 := ⟨_, rfl⟩
    rw [hW3] at hend
    have hg3 : W2.grownBy W3 (some (W0.heap.size + 1)) := by rw [← hW3]; exact Zcr _ _ _
    have hv3 : W3.heap[w.heap.size]? = some (.cells #[v] 37 (0, 0)) := by rw [← hW3]; exact (World.putObj_heap_other (by omega)).trans hv
    have hK3 : W3.heap[W0.heap.size]? = some (.deferred (some [])) := by rw [← hW3]; exact (World.putObj_heap_other (by omega)).trans h2.K
    have hrow3 := hrow.kept hg3 (Zel hrow h2.L (fun cur e => by cases e))
    have hb3 : Below w.heap.size w W3 := h2.below.grown hg3 h2.below.size (fun k e => by cases e; omega)
    obtain ⟨hc3, hf3⟩ := cell_of_box hv3
    clear hW3
    refine ⟨none, W3, hend, ?_⟩
    gi_wp2
    rw [← hs0]
    refine ⟨by simp, .inl ⟨_, _, rfl, run_takeDeferred hK3, ?_⟩⟩
    exact ⟨_, results_tmp rfl _ _ _, v, ss, rfl, hS, hrow3.kept (Zcr _ _ _) (Zel hrow3 hK3 (fun cur e => by cases e)), hnil, hb3.grown (Zcr _ _ _) hb3.size (fun k e => by cases e; omega)⟩
end Go.Proofs.Ytmanpbgaihdalaa
namespace Go.Proofs.Ytmanpbgaihdalaa
open Go Dv Go.RowKit Go.Maps Go.Sort Go.Shelf
attribute [local go_sem] Oper.semAt_some
set_option maxRecDepth 100000 in
set_option maxHeartbeats 2000000 in
theorem Sq.values1_in (F : Fence) (n : Nat) (h7 : F.fn 177) (hro : F.round = none) (hn : 1 ≤ n) (Bs bo b off cap : Nat) (zs : List Int) (hreach : zs.length * 2 ≤ 140737488351232) (w : World) (hBs0 : Bs < w.heap.size) (hb : b < w.heap.size)
    (hBs : w.cell? ⟨Bs, bo, none⟩ = some (.slice (some ⟨b, off, none⟩) zs.length cap)) (hc : ∀ j, j < zs.length → w.cell? ⟨b, off + j, none⟩ = some (.int .u16 (zs[j]?.getD 0))) :
    SeqU F n 177 #[.pointer (some ⟨Bs, bo, none⟩)] (fun ss => ss = zs) zs.length w := by
  intro l J W hW hJB hY h0
  have hBsW := (hW.cell (p := ⟨Bs, bo, none⟩) hBs0).trans hBs
  have hcW : ∀ W', RowKit.Below w.heap.size w W' → ∀ k, k < zs.length → W'.cell? ⟨b, off + k, none⟩ = some (.int .u16 (zs[k]?.getD 0)) := fun W' h k hk => (h.cell (p := ⟨b, off + k, none⟩) hb).trans (hc k hk)
  refine callsIn_of_wp Try.func177 rfl h7 ?_ hro
  simp only [Try.ntmps177, List.size_toArray, List.length_cons, List.length_nil, Nat.reduceAdd, Nat.reduceSub, Array.replicate_succ, Array.replicate_zero, List.push_toArray, List.append_toArray, List.nil_append, List.cons_append]
  gi_wp2
  gi_loopw [7] (fun i wr => ∃ k : Nat, k ≤ zs.length ∧ i = .int .i64 k ∧ J (zs.take k) wr)
    (fun i _ => zs.length - (intOf i).toNat)
  case atStart => exact ⟨0, Nat.zero_le _, rfl, by simpa using h0⟩
  case round =>
    obtain ⟨k, hk, rfl, hJs⟩ := hrel
    by_cases hlt : k < zs.length
    · have hcx' := hcW wr (hJB _ _ hJs) k hlt
      have hJx : ∀ W', J (zs.take k ++ [zs[k]?.getD 0]) W' → J (zs.take (k + 1)) W' := fun W' h => by rw [List.take_add_one]; simpa [List.getElem?_eq_getElem hlt] using h
      generalize zs[k]?.getD 0 = x at hcx' hJx
      obtain ⟨fn, tmps, assign, body, hy, hR⟩ := hY _ x wr hJs (by rw [List.length_take]; omega)
      unfold encU at hy
      gi_wp2
      refine hR.mono ?_
      rintro e W3 ⟨rfl, hJ3, _⟩
      gi_wp2
      go_roundw
      case rel => exact ⟨k + 1, by omega, by simp, hJx _ hJ3⟩
      case measure => simp [intOf]; omega
    · obtain rfl : k = zs.length := by omega
      gi_wp2
      go_end0
      exact ⟨⟨_, rfl⟩, _, rfl, by simpa using hJs⟩
set_option maxRecDepth 100000 in
set_option maxHeartbeats 1000000 in
theorem Sq.values1_nil (F : Fence) (n : Nat) (h7 : F.fn 177) (hro : F.round = none) (Bs bo cap : Nat) (p : Option Addr) (w : World) (hBs0 : Bs < w.heap.size)
    (hBs : w.cell? ⟨Bs, bo, none⟩ = some (.slice p 0 cap)) :
    SeqU F n 177 #[.pointer (some ⟨Bs, bo, none⟩)] (fun ss => ss = []) 0 w := by
  intro l J W hW hJB hY h0
  have hBsW := (hW.cell (p := ⟨Bs, bo, none⟩) hBs0).trans hBs
  refine callsIn_of_wp Try.func177 rfl h7 ?_ hro
  simp only [Try.ntmps177, List.size_toArray, List.length_cons, List.length_nil, Nat.reduceAdd, Nat.reduceSub, Array.replicate_succ, Array.replicate_zero, List.push_toArray, List.append_toArray, List.nil_append, List.cons_append]
  gi_wp2
  gi_loopw [7] (fun i wr => i = .int .i64 0 ∧ J [] wr) (fun _ _ => 0)
  case atStart => exact ⟨rfl, h0⟩
  case round =>
    obtain ⟨rfl, hJs⟩ := hrel
    gi_wp2
    go_end0
    exact ⟨⟨_, rfl⟩, _, rfl, hJs⟩
end Go.Proofs.Ytmanpbgaihdalaa
namespace Go.Proofs.Ytmanpbgaihdalaa
open Go Dv Go.RowKit Go.Maps Go.Sort Go.Shelf
set_option linter.unusedSimpArgs false
theorem fr_below {w w' : World} (h : RowKit.Below w.heap.size w w') : Fr (fun _ => False) w w' :=
  ⟨h.os, h.tape, h.output, h.size, fun b hb _ => h.block b hb, fun a ha => by simp only [World.frozen?, h.block a.block ha]⟩
theorem c_AppendSeq (l : List Int) (hl : l.length ≤ maxL) : FO Try.prog 181 [.nsl, .fn 177 [.ip [u16s l]]] 1 l.length (fun i => [.int .u16 (l.getD i 0)]) := by
  refine ⟨⟨_, Try.func181, rfl, by decide +kernel⟩, fun X w vals hX hv => ?_⟩
  simp only [Vs, V, Vc, u16s] at hv
  obtain ⟨_, _, rfl, rfl, _, _, rfl, ⟨a, rfl, _, _, rfl, ⟨Bs, bo, rfl, hBs, hnX, ⟨v, hcell, _, p, c, rfl, hnc, _, hrow⟩, _⟩, rfl⟩, rfl⟩ := hv
  have hu : ∀ i, i < l.length → IntKind.u16.min ≤ l.getD i 0 ∧ l.getD i 0 ≤ IntKind.u16.max := fun i hi => by
    rcases hrow with h0 | ⟨b, o, _, _, _, hc⟩
    · omega
    · exact (hc i hi).2.1.choose_spec.2.2.2
  have key : ∃ N, SeqU Fence.wide 1 177 #[.pointer (some ⟨Bs, bo, none⟩)] (fun ss => ss = l) N w ∧ N ≤ maxLen ∧ N * 2 ≤ 140737488355328 := by
    rcases hrow with h0 | ⟨b, o, rfl, hb, _, hc⟩
    · have : l = [] := List.length_eq_zero_iff.1 h0
      subst this
      exact ⟨0, Sq.values1_nil Fence.wide 1 trivial rfl Bs bo c p w hBs hcell, by decide, by decide⟩
    · refine ⟨l.length, Sq.values1_in Fence.wide 1 trivial rfl (by omega) Bs bo b o c l (by simp only [maxL] at hl; omega) w hBs hb hcell (fun j hj => ?_), by simp only [maxL] at hl; simp only [maxLen]; omega, by simp only [maxL] at hl; omega⟩
      obtain ⟨_, ⟨v, h1, _, h2, _⟩, _⟩ := hc j hj
      rw [Nat.mul_one] at h1
      rw [h1, h2]; simp
  obtain ⟨N, hseq, hN, hN2⟩ := key
  refine (callsIn_wide.1 (Sq.appendSeq_in Fence.wide 2 trivial rfl (by omega) 177 #[.pointer (some ⟨Bs, bo, none⟩)] trivial (fun args w => run_callFunc ⟨_, Try.func177, rfl, by decide +kernel⟩ args w) (fun ss => ss = l) N hN hN2 w hseq)).mono ?_
  rintro e w' ⟨v, ss, rfl, rfl, hown, hnil, hb⟩
  refine ⟨v, rfl, fr_below hb, hl, ?_⟩
  rcases hown.2 with ⟨h1, h2⟩ | ⟨g, cap, cur, h1, h2, h3, h4, h5, h6, h7⟩
  · exact .inl ⟨h1, h2⟩
  · refine .inr ⟨_, g, cap, h1, h2, .inr rfl, cur, 55, h3, h4, h6, fun i hi => ⟨rfl, ?_⟩⟩
    simp only [Vc, V]
    have hg : cur[i]? = some (.int .u16 (ss.getD i 0)) := by
      have := congrArg (fun l => l[i]?) h7
      simp only [Nat.mul_one, List.getElem?_take, hi, if_true, List.getElem?_map] at this
      rw [← Array.getElem?_toList, this, List.getElem?_eq_getElem hi, List.getD_eq_getElem?_getD, List.getElem?_eq_getElem hi]; rfl
    refine ⟨⟨_, ?_, rfl, rfl, ?_⟩, trivial⟩
    · simp [World.cell?, h3, hg]
    · exact hu i hi
theorem Rel.bp {h : Zaq} {id : Dv.Id} {imm : Bool} {sz k : Nat} {f : Nat → List AV} {g : List AV} (hh : h id = some (.row imm sz k f)) (hk : 0 < k) (hm : Rels h (f 0) g) : Rel h (.bp id 0) (.ip g) := fun X ι w v s hv => by
  simp only [V] at hv ⊢
  cases hl : ι id with
  | none => simp [hl] at hv
  | some l =>
    cases l with
    | ghost => simp [hl] at hv
    | nil => simp [hl] at hv
    | «at» b c =>
      simp only [hl] at hv
      obtain ⟨arr, TT, hc, h4, h5, h6⟩ := s.rel id _ _ hh hl
      refine ⟨b, 0, hv, s.lt hl, s.apart id b c hl, ?_⟩
      obtain ⟨h7, h8⟩ := h6 0 hk
      have h9 := Zcp imm _ _ _ h8
      rw [Nat.zero_mul] at h9
      obtain ⟨vs, hvl, hvc, hvV, hv1⟩ := Vc_read h9
      exact Vc_of_Vs (hm X ι w vs s hvV) hvc hv1
theorem c_Values (l : List Int) : FC Try.prog 166 [u16s l] (.fn 177 [.ip [u16s l]]) := by
  refine Zay tok Try.func166 rfl (by decide +kernel) (Nat.le_of_ble_eq_true rfl) ?_
  (repeat' first | refine Zad ?_ | (refine Zac tok (by rfl) ?_; conv => whnf) | (refine Zaj ?_; conv => whnf))
  exact ⟨_, rfl, Rel.fn (Rels.cons (Rel.bp rfl Nat.zero_lt_one (Rels.imm rfl)) Rels.nil)⟩
theorem c_Collect (l : List Int) (hl : l.length ≤ maxL) : FO Try.prog 175 [.fn 177 [.ip [u16s l]]] 1 l.length (fun i => [.int .u16 (l.getD i 0)]) := by
  refine Zc6 tok Try.func175 rfl (by decide +kernel) (Nat.le_of_ble_eq_true rfl) ?_
  (repeat' first | refine Zad ?_ | (refine Zac tok (by rfl) ?_; conv => whnf))
  refine .inl ⟨_, _, _, uG (QC.fo (rd := []) (c_AppendSeq l hl) (Ress.imms rfl) (.inl rfl) rfl), ?_⟩
  conv => whnf
  (repeat' (refine Zaj ?_; conv => whnf))
  exact ⟨_, rfl, .rs rfl (Nat.le_refl _) rfl (fun _ _ => rfl)⟩
theorem c_Sorted (l : List Int) (hl : l.length ≤ maxL) : FO Try.prog 165 [.fn 177 [.ip [u16s l]]] 1 l.length (fun i => [.int .u16 ((Zdr l).getD i 0)]) := by
  refine Zc6 tok Try.func165 rfl (by decide +kernel) (Nat.le_of_ble_eq_true rfl) ?_
  (repeat' first | refine Zad ?_ | (refine Zac tok (by rfl) ?_; conv => whnf))
  refine .inl ⟨_, _, _, uG (QC.fo (rd := []) (c_Collect l hl) (Ress.imms rfl) (.inl rfl) rfl), ?_⟩
  conv => whnf
  (repeat' first | refine Zad ?_ | (refine Zac tok (by rfl) ?_; conv => whnf))
  have hS := c_Sort l.length l.toArray (by simp)
  refine .inr ⟨_, _, _, uG (QH.of (dead := []) [(i0, .old (5, 0, 0), arow l.length l.toArray)] hS rfl (.old rfl (BLe.row rfl (fun x h2 => ?_)) .nil) (.cons (.eq rfl) .nil) [(i0, (5, 0, 0))] rfl (.cons (b' := .row true 1 l.length (fun i => [.int .u16 ((Zdr l).getD i 0)])) rfl (BLe.row rfl (fun x h2 => ?_)) .nil) rfl), ?_⟩
  · show [AV.int .u16 (l.getD x 0)] = [.int .u16 l.toArray[x]!]
    rw [bang_list]
  · show [AV.int .u16 (Go.Sort.sort ltInt l.toArray)[x]!] = [.int .u16 ((Zdr l).getD x 0)]
    rw [← bang_list]; simp [Zdr]
  conv => whnf
  (repeat' first | refine Zad ?_ | (refine Zac tok (by rfl) ?_; conv => whnf) | (refine Zaj ?_; conv => whnf))
  exact ⟨_, rfl, .rs rfl (Nat.le_refl _) rfl (fun _ _ => rfl)⟩
end Go.Proofs.Ytmanpbgaihdalaa
namespace Go.Proofs.Ytmanpbgaihdalaa
open Go Dv
set_option maxRecDepth 10000
set_option linter.unusedSimpArgs false
theorem sorted_perm (l : List Int) : (Zdr l).Perm l := by rw [sorted_eq]; exact List.mergeSort_perm l _
theorem sorted_asc (l : List Int) : ∀ i j, i < j → j < (Zdr l).length → (Zdr l).getD i 0 ≤ (Zdr l).getD j 0 := by
  have h : (Zdr l).Pairwise (fun x y => decide (x ≤ y) = true) := by
    rw [sorted_eq]
    exact List.pairwise_mergeSort (fun a b c h1 h2 => by simp at *; omega) (fun a b => by simp; omega) l
  intro i j hij hj
  rw [List.pairwise_iff_getElem] at h
  have := h i j (by omega) hj hij
  rw [Zbh _ (by omega), Zbh _ hj]; simpa using this
theorem runs_sorted (l : List Int) : runs (Zdr l).toArray l.length = l.length ↔ l.Nodup := by
  have h := runs_all (sorted_asc l) l.length (by rw [sorted_len]; omega)
  rw [h, ← (sorted_perm l).nodup_iff]
  constructor
  · intro hh; exact nodup_getD (fun i hi k hk => hh i (by rw [sorted_len] at hi; exact hi) k hk)
  · intro hn x hx y hy he
    exact not_nodup (by rw [sorted_len]; exact hx) hy he hn
theorem c_lpad : LPad := by
  intro m f b
  refine Zay tok Try.func156 rfl (by decide +kernel) (Nat.le_of_ble_eq_true rfl) ?_
  refine Zat 1 (fun hl => ?_)
  have hl0 : b.pad.catch_.length ≤ maxL := hl.2.2.1.1
  (repeat' first | refine Zad ?_ | (refine Zac tok (by rfl) ?_; conv => whnf) | (refine Zah ?_; conv => whnf) | refine Zag rfl (fun hb => ?_) (fun hb => ?_))
  · refine .inl ⟨_, _, _, uG (QC.sc (rd := []) (c_samePad b.pad ⟨0, [], false, false⟩) (.cons (.imm rfl) (.cons (.agg (.cons (.imm rfl) (.cons .nsl (.cons (.imm rfl) (.cons (.imm rfl) .nil))))) .nil)) rfl), ?_⟩
    conv => whnf
    (repeat' (refine Zaj ?_; conv => whnf))
    refine ⟨_, rfl, Rel.bool ?_⟩
    rw [decide_eq_decide]
    obtain ⟨land, ⟨d, c, al, cl⟩, _, _⟩ := b
    simp at hb
    simp [PadP, hb, and_assoc]
  refine .inl ⟨_, _, _, uG (QC.fc (c_Values b.pad.catch_) rfl), ?_⟩
  conv => whnf
  skip
  refine .inl ⟨_, _, _, uG (QC.fo (rd := []) (c_Sorted b.pad.catch_ hl0) (Ress.imms rfl) (.inl rfl) rfl), ?_⟩
  conv => whnf
  (repeat' first | refine Zad ?_ | (refine Za3 tok mix (by rfl) ?_; conv => whnf))
  refine .inl ⟨_, _, _, uG (QC.fc (c_place m f b.pad.dst) rfl), ?_⟩
  conv => whnf
  skip
  have hC := c_Compact b.pad.catch_.length (Zdr b.pad.catch_).toArray (by simp [sorted_len])
  refine .inl ⟨_, _, _, uG (QC.turn (i := (18, 0, 0)) (rd := [(18, 0, 0)]) (b := .row true 1 0 (fun _ => [])) (List.mem_singleton.2 rfl) (fun h' hh => QH.of (dead := []) [(i0, .old (18, 0, 0), arow b.pad.catch_.length (Zdr b.pad.catch_).toArray)] hC rfl (.old (hh _ (List.mem_singleton.2 rfl)) (BLe.row rfl (fun x h2 => ?_)) .nil) (.cons (.eq rfl) .nil) [(i0, (18, 0, 0))] rfl (.cons (b' := .row true 1 0 (fun _ => [])) rfl (BLe.rowW (Nat.zero_le _) (fun x h2 => absurd h2 (Nat.not_lt_zero x))) .nil) rfl)), ?_⟩
  · show [AV.int .u16 ((Zdr b.pad.catch_).getD x 0)] = [.int .u16 (Zdr b.pad.catch_).toArray[x]!]
    rw [bang_list]
  conv => whnf
  (repeat' (refine Zaj ?_; conv => whnf))
  refine ⟨_, rfl, Rel.bool ?_⟩
  have h1 := runs_sorted b.pad.catch_
  generalize runs (Zdr b.pad.catch_).toArray b.pad.catch_.length = rr at h1 ⊢
  have hland : b.landing = true := by simpa using hb
  rw [Bool.eq_iff_iff]
  have e1 : ((rr : Int) = (b.pad.catch_.length : Int)) ↔ b.pad.catch_.Nodup := by rw [← h1]; omega
  have e2 : ((b.pad.catch_.length : Int) ≤ 8) ↔ b.pad.catch_.length ≤ 8 := by omega
  have e3 : (0 : Int) < (b.pad.catch_.length : Int) ↔ b.pad.catch_ ≠ [] := by
    rw [← List.length_pos_iff]; omega
  simp only [cond_eq_ite, Bool.if_false_right, Bool.if_true_left, Bool.and_eq_true, Bool.or_eq_true, decide_eq_true_eq, e1, e2, e3, PadP, hland, Bool.decide_eq_true]
  simp
  constructor
  · rintro ⟨⟨⟨h2, h3⟩, h4⟩, h5⟩
    refine ⟨h3, h4, h2, ?_⟩
    rcases h5 with (h5 | h5) | h5 <;> simp [h5]
  · rintro ⟨h3, h4, h2, h5⟩
    refine ⟨⟨⟨h2, h3⟩, h4⟩, ?_⟩
    rcases h5 with h5 | h5 | h5 <;> simp [h5]
end Go.Proofs.Ytmanpbgaihdalaa
namespace Go.Proofs.Ytmanpbgaihdalaa
open Go Dv
def leL (a b : List Bool) : Prop := ∀ i, a.getD i false = true → b.getD i false = true
theorem leL.refl (a : List Bool) : leL a a := fun _ h => h
theorem leL.trans {a b c : List Bool} (h : leL a b) (k : leL b c) : leL a c := fun i e => k i (h i e)
def cnt (a : List Bool) : Nat := a.count true
theorem cnt_le {a : List Bool} : cnt a ≤ a.length := List.count_le_length
theorem cnt_mono : ∀ {a b : List Bool}, a.length = b.length → leL a b → cnt a ≤ cnt b ∧ (cnt b ≤ cnt a → a = b)
  | [], [], _, _ => ⟨Nat.le_refl _, fun _ => rfl⟩
  | x :: a, y :: b, hl, h => by
      have hl' : a.length = b.length := by simpa using hl
      have h' : leL a b := fun i e => by have := h (i + 1) (by simpa using e); simpa using this
      have h0 : x = true → y = true := fun e => by have := h 0 (by simpa using e); simpa using this
      obtain ⟨h1, h2⟩ := cnt_mono hl' h'
      unfold cnt at h1 h2 ⊢
      cases x <;> cases y
      · refine ⟨by simpa using h1, fun k => ?_⟩
        rw [h2 (by simpa using k)]
      · refine ⟨by simp; omega, fun k => ?_⟩
        simp at k; omega
      · exact absurd (h0 rfl) (by simp)
      · refine ⟨by simpa using h1, fun k => ?_⟩
        rw [h2 (by simpa using k)]
theorem set_get {a : List Bool} {n i : Nat} (hn : n < a.length) : (a.set n true).getD i false = (decide (n = i) || a.getD i false) := by
  rw [Zey]
  by_cases h : n = i
  · subst h; simp [hn]
  · simp [h]
theorem leL_set (a : List Bool) (n : Nat) : leL a (a.set n true) := fun i h => by
  by_cases hn : n < a.length
  · rw [set_get hn, h]; simp
  · rw [List.set_eq_of_length_le (by omega)]; exact h
section
variable (len : Nat) (D : Nat → List Bool → Bool)
def MonoD : Prop := ∀ n a b, leL a b → D n a = true → D n b = true
structure Closed (a : List Bool) : Prop where
  sz : a.length = len
  cl : ∀ n, n < len → D n a = true → a.getD n false = true
def Zf0 (a : List Bool) : Prop := ∀ c, Closed len D c → leL a c
def nxt (a : List Bool) : List Bool := (List.range len).map fun n => a.getD n false || D n a
def iterN : Nat → List Bool → List Bool
  | 0, a => a
  | k + 1, a => iterN k (nxt len D a)
def lfp : List Bool := iterN len D (len + 1) (List.replicate len false)
variable {len D}
theorem nxt_len (a : List Bool) : (nxt len D a).length = len := by simp [nxt]
theorem nxt_get (a : List Bool) {i : Nat} (hi : i < len) : (nxt len D a).getD i false = (a.getD i false || D i a) := by simp [nxt, List.getD_eq_getElem?_getD, hi]
theorem getD_ge {a : List Bool} {i : Nat} (h : a.length ≤ i) : a.getD i false = false := by simp [List.getD_eq_getElem?_getD, h]
theorem nxt_le {a : List Bool} (hl : a.length = len) : leL a (nxt len D a) := fun i h => by
  by_cases hi : i < len
  · rw [nxt_get a hi, h]; rfl
  · rw [getD_ge (by omega)] at h; cases h
theorem nxt_beneath (hD : MonoD D) {a : List Bool} (h : Zf0 len D a) : Zf0 len D (nxt len D a) := fun c hc i e => by
  by_cases hi : i < len
  · rw [nxt_get a hi, Bool.or_eq_true] at e
    rcases e with e | e
    · exact h c hc i e
    · exact hc.cl i hi (hD i a c (h c hc) e)
  · rw [getD_ge (by rw [nxt_len]; omega)] at e; cases e
theorem nxt_same {a : List Bool} (hl : a.length = len) (h : cnt (nxt len D a) ≤ cnt a) : Closed len D a := by
  have e := (cnt_mono (by rw [hl, nxt_len]) (nxt_le hl)).2 h
  refine ⟨hl, fun n hn hd => ?_⟩
  rw [e, nxt_get a hn, hd]; simp
theorem nxt_closed {a : List Bool} (h : Closed len D a) : nxt len D a = a := by
  refine Zbo false (by rw [nxt_len, h.sz]) (fun i hi => ?_)
  rw [nxt_len] at hi
  rw [nxt_get a hi]
  cases e : D i a with
  | false => simp
  | true => rw [h.cl i hi e]; rfl
theorem iterN_ok (hD : MonoD D) : ∀ (k : Nat) (a : List Bool), a.length = len → Zf0 len D a → (iterN len D k a).length = len ∧ Zf0 len D (iterN len D k a) ∧ (Closed len D (iterN len D k a) ∨ k + cnt a ≤ cnt (iterN len D k a))
  | 0, a, hl, hb => ⟨hl, hb, .inr (by simp [iterN])⟩
  | k + 1, a, hl, hb => by
      have ih := iterN_ok hD k (nxt len D a) (nxt_len a) (nxt_beneath hD hb)
      simp only [iterN]
      refine ⟨ih.1, ih.2.1, ?_⟩
      by_cases hc : cnt (nxt len D a) ≤ cnt a
      · have h0 := nxt_same hl hc
        left
        have : ∀ k, iterN len D k a = a := fun k => by
          induction k with
          | zero => rfl
          | succ k ih => rw [iterN, nxt_closed h0, ih]
        rw [nxt_closed h0, this k]; exact h0
      · rcases ih.2.2 with h | h
        · exact .inl h
        · right; omega
theorem lfp_ok (hD : MonoD D) : Closed len D (lfp len D) ∧ Zf0 len D (lfp len D) := by
  have h0 : Zf0 len D (List.replicate len false) := fun c _ i e => by
    exfalso; simp only [List.getD_eq_getElem?_getD, List.getElem?_replicate] at e; split at e <;> simp at e
  have := iterN_ok hD (len + 1) (List.replicate len false) (by simp) h0
  refine ⟨?_, this.2.1⟩
  rcases this.2.2 with h | h
  · exact h
  · have h2 : cnt (iterN len D (len + 1) (List.replicate len false)) ≤ (iterN len D (len + 1) (List.replicate len false)).length := cnt_le
    rw [this.1] at h2; omega
theorem lfp_uniq (hD : MonoD D) {a : List Bool} (h1 : Closed len D a) (h2 : Zf0 len D a) : a = lfp len D := by
  obtain ⟨h3, h4⟩ := lfp_ok hD (len := len)
  refine Zbo false (by rw [h1.sz, h3.sz]) (fun i _ => ?_)
  have e1 := h2 _ h3 i
  have e2 := h4 _ h1 i
  cases hx : a.getD i false <;> cases hy : (lfp len D).getD i false
  · rfl
  · rw [e2 hy] at hx; cases hx
  · rw [e1 hx] at hy; cases hy
  · rfl
end
end Go.Proofs.Ytmanpbgaihdalaa
namespace Go.Proofs.Ytmanpbgaihdalaa
open Go Dv
set_option maxRecDepth 10000
set_option linter.unusedSimpArgs false
structure OkB (nf nb : Nat) (b : Zbk) : Prop where
  fn : b.fin.kind = 4 → 0 ≤ b.fin.f ∧ b.fin.f < nf
  pad : b.fin.kind = 4 → 0 ≤ b.fin.pad ∧ b.fin.pad < nb
  ins : ∀ i, i < b.ins.length → (b.ins.getD i default).op = 11 → 0 ≤ (b.ins.getD i default).f ∧ (b.ins.getD i default).f < nf
theorem all_at {α : Type} (d : α) {p : α → Bool} {l : List α} (h : l.all p = true) {i : Nat} (hi : i < l.length) : p (l.getD i d) = true := by
  rw [List.all_eq_true] at h; rw [Zbh d hi]; exact h _ (List.getElem_mem hi)
theorem args_in {m : Za1} {f : Func} {n : Int} {l : List Int} (h : argsB m f n l = true) : 0 ≤ n ∧ n < m.funcs.length := by
  unfold argsB at h
  cases h1 : inn n m.funcs.length with
  | true => exact (Zab _ _).1 h1
  | false => rw [h1] at h; simp at h
theorem Zdu {m : Za1} (h : Zc0 m = true) {n : Nat} (hn : n < m.funcs.length) : Zfv m (m.funcs.getD n default) = true := by
  unfold Zc0 at h; rw [Bool.and_eq_true] at h
  exact all_at default h.2 hn
theorem Zfu {m : Za1} {f : Func} (h : Zfv m f = true) {i : Nat} (hi : i < f.blocks.length) : blkB m f (f.blocks.getD i default) = true := by
  unfold Zfv at h; rw [Bool.and_eq_true] at h
  exact all_at default h.2 hi
theorem blk_ok {m : Za1} {f : Func} {b : Zbk} (h : blkB m f b = true) : OkB m.funcs.length f.blocks.length b := by
  unfold blkB at h; rw [Bool.and_eq_true, decide_eq_true_eq] at h
  obtain ⟨⟨_, _, he⟩, hi⟩ := h
  have k4 : b.fin.kind = 4 → argsB m f b.fin.f b.fin.args = true ∧ inn b.fin.pad f.blocks.length = true := fun k => by
    rcases he with h | h | h | h | h
    · omega
    · omega
    · omega
    · exact ⟨h.2.2.2.1, h.2.2.2.2.2.2.1⟩
    · omega
  refine ⟨fun k => args_in (k4 k).1, fun k => (Zab _ _).1 (k4 k).2, fun i hi' k => ?_⟩
  have := all_at default hi hi'
  rw [decide_eq_true_eq] at this
  rcases this with h | h | h | h | h | h | h
  · omega
  · omega
  · omega
  · omega
  · exact args_in h.2.2.2.2.2
  · omega
  · omega
end Go.Proofs.Ytmanpbgaihdalaa
namespace Go.Proofs.Ytmanpbgaihdalaa
open Go Dv
set_option maxRecDepth 10000
set_option linter.unusedSimpArgs false
theorem app_fnW {sz n x : Nat} {f g : Nat → List AV} {c : List AV} (hf : ∀ i, i < n → f i = g i) (hc : c = g n) (hl : c.length = sz) (hx : x < n + 1) : appR n f (fun i => rowOf sz c (0 + i)) x = g x := by
  by_cases e : x < n
  · have h1 : appR n f (fun i => rowOf sz c (0 + i)) x = f x := by
      unfold appR; rw [show Nat.blt x n = true from by rw [Nat.blt_eq]; exact e]; rfl
    rw [h1, hf x e]
  · have e2 : x = n := by omega
    subst e2
    subst hl
    have h1 : appR x f (fun i => rowOf c.length c (0 + i)) x = c := by
      unfold appR; rw [show Nat.blt x x = false from by rw [Bool.eq_false_iff]; intro h; rw [Nat.blt_eq] at h; omega, Nat.sub_self]
      exact rowOf_one _
    rw [h1, hc]
abbrev j0 : Dv.Id := (1, 7, 0)
theorem updR_hit {f : Nat → List AV} {k : Nat} {c : List AV} : updR f k c k = c := by
  unfold updR; rw [show Nat.beq k k = true from by simp]; rfl
theorem updR_miss {f : Nat → List AV} {k i : Nat} {c : List AV} (h : ¬ k = i) : updR f k c i = f i := by
  unfold updR; rw [show Nat.beq k i = false from by rw [Bool.eq_false_iff]; exact fun e => h (Nat.eq_of_beq_eq_true e)]; rfl
end Go.Proofs.Ytmanpbgaihdalaa
namespace Go.Proofs.Ytmanpbgaihdalaa
open Go Dv
set_option maxRecDepth 10000
set_option linter.unusedSimpArgs false
def numB (s : List Bool) (n : Nat) : Nat := (s.take n).count true
def Zb7 (s : List Bool) : List Int := (List.range s.length).map fun i => if s.getD i false = true then (numB s i : Int) else -1
theorem anewL_len (s : List Bool) : (Zb7 s).length = s.length := by simp [Zb7]
theorem anewL_at {s : List Bool} {i : Nat} (h : i < s.length) : (Zb7 s).getD i 0 = if s.getD i false = true then (numB s i : Int) else -1 := by
  unfold Zb7; rw [List.getD_eq_getElem?_getD, List.getElem?_map, List.getElem?_range h]; rfl
theorem numB_succ {s : List Bool} {i : Nat} (h : i < s.length) : numB s (i + 1) = numB s i + (if s.getD i false = true then 1 else 0) := by
  unfold numB
  rw [Zcf false h, List.count_append]
  cases s.getD i false <;> simp
theorem numB_le (s : List Bool) (i : Nat) : numB s i ≤ s.length := by
  unfold numB
  have h1 := List.count_le_length (a := true) (l := s.take i)
  have h2 := List.length_take_le i s
  have h3 := List.length_take_le' i s
  omega
theorem c_anew (s : List Bool) : FC Try.prog 94 [Zea s] (ints (Zb7 s)) := by
  refine Zay tok Try.func94 rfl (by decide +kernel) (Nat.le_of_ble_eq_true rfl) ?_
  refine Zat 0 (fun hl => ?_)
  have hmx : maxL = 4294967296 := rfl
  have hl0 : s.length ≤ maxL := hl.1
  clear hl
  (repeat' first | refine Zad ?_ | (refine Zac tok (by rfl) ?_; conv => whnf) | refine Zaf ?_)
  refine Zas (fun k : Nat => mkS [(3, .rs (30, 0, 0) 1 0 k), (4, iv (numB s k)), (7, Zea s), (8, iv s.length), (9, iv k)] [((30, 0, 0), .row true 1 k (fun q => [iv ((Zb7 s).getD q 0)]))]) (fun k => k ≤ s.length) (fun k => s.length - k) 0 (Nat.zero_le _) ?_ ?_
  · refine Weak.list [((30, 0, 0), .nil, .row true 1 0 (fun q => [iv ((Zb7 s).getD q 0)]))] rfl (by rfl) ?_ (.new .nil)
    ((repeat' first | exact TLes.nil | refine TLes.cons (TLe.eq rfl) ?_ | refine TLes.cons (TLe.nilL rfl ?_) ?_); (all_goals first | rfl | skip))
  intro k hk
  have hnb := numB_le s k
  (repeat' ((fail_if_success (show AWp _ _ _ (Code.region 5 _ _) _ _)); first | refine Zad ?_ | (refine Zac tok (by rfl) ?_; conv => whnf) | refine Zaf ?_ | (refine Zah ?_; conv => whnf) | (refine Zar ?_; conv => whnf) | (refine Zaj ?_; conv => whnf) | refine Zag rfl (fun hb => ?_) (fun hb => ?_)))
  · have hkl : k < s.length := by simp only [decide_eq_true_eq] at hb; omega
    clear hb
    have hs := numB_succ hkl
    have ha := anewL_at hkl
    ((repeat' first | refine Zad ?_ | (refine Zac tok (by rfl) ?_; conv => whnf) | (refine Zah ?_; conv => whnf) | (refine Zar ?_; conv => whnf) | refine Zag rfl (fun hb => ?_) (fun hb => ?_) | (refine @And.intro (Zaa _ _ _ _) _ ?_ ?_; rotate_left; (conv => whnf); rotate_right)); all_goals (try ((guard_target = Zaa _ _ _ _); refine Zae ?_; (first | refine And.intro (Zbx rfl ?_) ?_ | skip); (all_goals (try simp only [Zaa, kzz, kz11, kz12, maxL, Zab] at *)); all_goals omega)))
    · have hf : s.getD k false = false := by simpa using hb
      rw [hf] at hs ha
      rw [if_neg (by simp)] at ha
      simp at hs
      refine ⟨k + 1, hkl, by omega, ?_⟩
      refine Weak.list [((30, 0, 0), .old (17, 0, 0), .row true 1 (k + 1) (fun q => [iv ((Zb7 s).getD q 0)]))] rfl (by rfl) ?_ (.old rfl (BLe.rowW ?_ (fun z hz => Wks.of ?_)) .nil)
      · ((repeat' first | exact TLes.nil | refine TLes.cons (TLe.eq rfl) ?_ | refine TLes.cons (TLe.int ?_) ?_); (all_goals first | ((try (simp only [Zaa, kzz, kz11, kz12, maxL, Zab] at *)); first | omega | exact Zal (by omega) (by omega)) | skip))
      · exact Nat.le_refl _
      · exact app_fnW (sz := 1) (f := fun q => [iv ((Zb7 s).getD q 0)]) (g := fun q => [iv ((Zb7 s).getD q 0)]) (c := [iv (-1)]) (fun _ _ => rfl) (by rw [ha]) rfl hz
    · have hf : s.getD k false = true := by simpa using hb
      rw [hf] at hs ha
      rw [if_pos rfl] at ha
      simp at hs
      refine ⟨k + 1, hkl, by omega, ?_⟩
      refine Weak.list [((30, 0, 0), .old (21, 0, 0), .row true 1 (k + 1) (fun q => [iv ((Zb7 s).getD q 0)]))] rfl (by rfl) ?_ (.old rfl (BLe.rowW ?_ (fun z hz => Wks.of ?_)) .nil)
      · ((repeat' first | exact TLes.nil | refine TLes.cons (TLe.eq rfl) ?_ | refine TLes.cons (TLe.int ?_) ?_); (all_goals first | ((try (simp only [Zaa, kzz, kz11, kz12, maxL, Zab] at *)); first | exact Zal (by omega) (by omega) | (simp (disch := omega) only [Zal]; omega)) | skip))
      · exact Nat.le_refl _
      · exact app_fnW (sz := 1) (f := fun q => [iv ((Zb7 s).getD q 0)]) (g := fun q => [iv ((Zb7 s).getD q 0)]) (c := [iv (numB s k)]) (fun _ _ => rfl) (by rw [ha]) rfl hz
  · have hkl : k = s.length := by simp only [decide_eq_false_iff_not] at hb; omega
    clear hb
    subst hkl
    skip
    exact ⟨_, rfl, Rel.row rfl rfl (anewL_len s).symm (fun _ _ => rfl)⟩
theorem c_Number (s : List Bool) (n : Int) (h0 : 0 ≤ n) (h1 : n ≤ s.length) : FC Try.prog 101 [Zea s, iv n] (iv (numB s n.toNat)) := by
  refine Zay tok Try.func101 rfl (by decide +kernel) (Nat.le_of_ble_eq_true rfl) ?_
  refine Zat 0 (fun hl => ?_)
  have hmx : maxL = 4294967296 := rfl
  have hl0 : s.length ≤ maxL := hl.1
  clear hl
  obtain ⟨m, rfl⟩ : ∃ m : Nat, n = m := ⟨n.toNat, by omega⟩
  rw [Int.toNat_natCast]
  (repeat' first | refine Zad ?_ | (refine Zac tok (by rfl) ?_; conv => whnf) | refine Zaf ?_)
  refine Zas (fun k : Nat => mkS [(0, Zea s), (1, iv m), (5, iv (numB s k)), (6, iv k)] []) (fun k => k ≤ m) (fun k => m - k) 0 (Nat.zero_le _) ?_ ?_
  · refine Weak.list [] rfl (by rfl) ?_ .nil
    ((repeat' first | exact TLes.nil | refine TLes.cons (TLe.eq rfl) ?_); skip)
  intro k hk
  have hnb := numB_le s k
  (repeat' ((fail_if_success (show AWp _ _ _ (Code.region 5 _ _) _ _)); first | refine Zad ?_ | (refine Zac tok (by rfl) ?_; conv => whnf) | refine Zaf ?_ | (refine Zah ?_; conv => whnf) | (refine Zar ?_; conv => whnf) | (refine Zaj ?_; conv => whnf) | refine Zag rfl (fun hb => ?_) (fun hb => ?_)))
  · have hkl : k < s.length := by simp only [decide_eq_true_eq] at hb; omega
    have hkm : k < m := by simp only [decide_eq_true_eq] at hb; omega
    clear hb
    have hs := numB_succ hkl
    ((repeat' first | (refine Zac tok (by rfl) ?_; conv => whnf) | (refine Zah ?_; conv => whnf) | refine Zag rfl (fun hb => ?_) (fun hb => ?_) | (refine @And.intro (Zaa _ _ _ _) _ ?_ ?_; rotate_left; (conv => whnf); rotate_right)); all_goals (try ((guard_target = Zaa _ _ _ _); refine Zae ?_; (all_goals (try simp only [Zaa, kzz, kz11, kz12, maxL, Zab] at *)); all_goals omega)))
    · have hf : s.getD k false = true := by simpa using hb
      rw [hf] at hs
      simp at hs
      refine ⟨k + 1, hkm, by omega, ?_⟩
      refine Weak.list [] rfl (by rfl) ?_ .nil
      ((repeat' first | exact TLes.nil | refine TLes.cons (TLe.eq rfl) ?_ | refine TLes.cons (TLe.int ?_) ?_); (all_goals first | ((try (simp only [Zaa, kzz, kz11, kz12, maxL, Zab] at *)); first | exact Zal (by omega) (by omega) | (simp (disch := omega) only [Zal]; omega)) | skip))
    · have hf : s.getD k false = false := by simpa using hb
      rw [hf] at hs
      simp at hs
      refine ⟨k + 1, hkm, by omega, ?_⟩
      refine Weak.list [] rfl (by rfl) ?_ .nil
      ((repeat' first | exact TLes.nil | refine TLes.cons (TLe.eq rfl) ?_ | refine TLes.cons (TLe.int ?_) ?_); (all_goals first | ((try (simp only [Zaa, kzz, kz11, kz12, maxL, Zab] at *)); first | omega | exact Zal (by omega) (by omega)) | skip))
  · have hkl : k = m := by simp only [decide_eq_false_iff_not] at hb; omega
    clear hb
    subst hkl
    skip
    exact ⟨_, rfl, Rel.imm rfl⟩
end Go.Proofs.Ytmanpbgaihdalaa
namespace Go.Proofs.Ytmanpbgaihdalaa
open Go Dv
set_option maxRecDepth 10000
set_option linter.unusedSimpArgs false
def Zc9 (b : Zbk) : Nat := if b.fin.kind = 3 ∨ b.fin.kind = 4 then 2 else if b.fin.kind = 2 then 1 else 0
def okAt (f : Func) (R : List Bool) (n : Nat) : Bool := bif R.getD n false then decide (((Fl.next f n).length : Int) = Zc9 (f.blocks.getD n default)) else true
def ren1 (R : List Bool) (b : Zbk) : Zbk := if 0 < Zc9 b then { b with fin := { b.fin with to := numB R b.fin.to.toNat } } else b
def ren2 (R : List Bool) (b : Zbk) : Zbk := if b.fin.kind = 3 then { b with fin := { b.fin with els := numB R b.fin.els.toNat } } else b
def ren3 (R : List Bool) (b : Zbk) : Zbk := if b.fin.kind = 4 then { b with fin := { b.fin with pad := numB R b.fin.pad.toNat } } else b
def renN (R : List Bool) (b : Zbk) : Zbk := ren3 R (ren2 R (ren1 R b))
def Za7 (R : List Bool) (k : Nat) : List Nat := (List.range k).filter fun n => R.getD n false
def Zbg (f : Func) (R : List Bool) (k : Nat) : List Zbk := (Za7 R k).map fun n => renN R (f.blocks.getD n default)
def allOk (f : Func) (R : List Bool) : Bool := (List.range f.blocks.length).all fun n => okAt f R n
noncomputable def Zbm (f : Func) : Func := if allOk f (Fl.Zcb f) = true ∧ 0 < (Zbg f (Fl.Zcb f) f.blocks.length).length then { f with blocks := Zbg f (Fl.Zcb f) f.blocks.length } else f
theorem Zfa {R : List Bool} {k : Nat} (h : R.getD k false = true) : Za7 R (k + 1) = Za7 R k ++ [k] := by
  unfold Za7; rw [List.range_succ, List.filter_append]; simp [h, List.filter_cons]
  simpa [List.getD_eq_getElem?_getD] using h
theorem Zef {R : List Bool} {k : Nat} (h : R.getD k false = false) : Za7 R (k + 1) = Za7 R k := by
  unfold Za7; rw [List.range_succ, List.filter_append]; simp [List.filter_cons]
  simpa [List.getD_eq_getElem?_getD] using h
theorem keptB_yes {f : Func} {R : List Bool} {k : Nat} (h : R.getD k false = true) : Zbg f R (k + 1) = Zbg f R k ++ [renN R (f.blocks.getD k default)] := by
  unfold Zbg; rw [Zfa h, List.map_append]; rfl
theorem keptB_no {f : Func} {R : List Bool} {k : Nat} (h : R.getD k false = false) : Zbg f R (k + 1) = Zbg f R k := by
  unfold Zbg; rw [Zef h]
theorem keptB_le (f : Func) (R : List Bool) (k : Nat) : (Zbg f R k).length ≤ k := by
  unfold Zbg Za7
  rw [List.length_map]
  have := List.length_filter_le (fun n => R.getD n false) (List.range k)
  rw [List.length_range] at this
  exact this
theorem named_in {f : Func} {n : Nat} (hn : n < f.blocks.length) (h : (Fl.next f n).length = Zc9 (f.blocks.getD n default)) :
    (0 < Zc9 (f.blocks.getD n default) → 0 ≤ (f.blocks.getD n default).fin.to ∧ (f.blocks.getD n default).fin.to < f.blocks.length) ∧
    ((f.blocks.getD n default).fin.kind = 3 → 0 ≤ (f.blocks.getD n default).fin.els ∧ (f.blocks.getD n default).fin.els < f.blocks.length) ∧
    ((f.blocks.getD n default).fin.kind = 4 → 0 ≤ (f.blocks.getD n default).fin.pad ∧ (f.blocks.getD n default).fin.pad < f.blocks.length) := by
  have hin : Fl.isIn f n = true := by unfold Fl.isIn; simp; omega
  have hnx : Fl.next f n = Fl.kept (fun k => !Fl.isIn f k) (Fl.nxt (f.blocks.getD n default)) := by
    unfold Fl.next; rw [if_pos hin]; rfl
  rw [hnx] at h
  generalize f.blocks.getD n default = b at h
  have hlen : (Fl.nxt b).length = Zc9 b := by
    unfold Fl.nxt Fl.Zdq Zc9
    by_cases h2 : b.fin.kind = 2
    · simp [h2]
    · by_cases h3 : b.fin.kind = 3
      · simp [h3]
      · by_cases h4 : b.fin.kind = 4
        · simp [h4]
        · simp [h2, h3, h4]
  have hall : ∀ x ∈ Fl.nxt b, Fl.isIn f x = true := by
    have := List.length_filter_eq_length_iff.1 (h.trans hlen.symm)
    intro x hx; simpa using this x hx
  have hi : ∀ x, Fl.isIn f x = true → 0 ≤ x ∧ x < f.blocks.length := fun x hx => by
    unfold Fl.isIn at hx
    cases h0 : decide (0 ≤ x) with
    | false => rw [h0] at hx; cases hx
    | true => rw [h0] at hx; simp at h0 hx; exact ⟨h0, hx⟩
  refine ⟨fun hm => hi _ (hall _ ?_), fun h3 => hi _ (hall _ ?_), fun h4 => hi _ (hall _ ?_)⟩
  · unfold Zc9 at hm
    unfold Fl.nxt Fl.Zdq
    by_cases h2 : b.fin.kind = 2
    · simp [h2]
    · by_cases h3 : b.fin.kind = 3
      · simp [h3]
      · by_cases h4 : b.fin.kind = 4
        · simp [h4]
        · simp [h2, h3, h4] at hm
  · unfold Fl.nxt Fl.Zdq; simp [h3]
  · unfold Fl.nxt Fl.Zdq; simp [h4]
end Go.Proofs.Ytmanpbgaihdalaa
namespace Go.Proofs.Ytmanpbgaihdalaa
open Go Dv
set_option maxRecDepth 10000
set_option linter.unusedSimpArgs false
theorem allOk_no {f : Func} {R : List Bool} {n : Nat} (hn : n < f.blocks.length) (h : okAt f R n = false) : allOk f R = false := by
  unfold allOk; rw [List.all_eq_false]
  exact ⟨n, List.mem_range.2 hn, by rw [h]; simp⟩
theorem allOk_yes {f : Func} {R : List Bool} (h : ∀ n, n < f.blocks.length → okAt f R n = true) : allOk f R = true :=
  List.all_eq_true.2 fun n hn => h n (List.mem_range.1 hn)
set_option maxHeartbeats 4000000 in
theorem c_r13Func (f : Func) : FC Try.prog 60 [.agg (Zai f)] (.agg (Zai (Zbm f))) := by
  refine Zay tok Try.func60 rfl (by decide +kernel) (Nat.le_of_ble_eq_true rfl) ?_
  refine Zat 0 (fun hl => ?_)
  have hmx : maxL = 4294967296 := rfl
  have hl0 : f.blocks.length ≤ maxL := hl.2.2.1.1
  clear hl
  (repeat' first | refine Zad ?_ | (refine Zac tok (by rfl) ?_; conv => whnf))
  refine .inl ⟨_, _, _, uG (QC.fc (Fl.fc23 f) rfl), ?_⟩
  conv => whnf
  have hRl := Fl.Zek f
  unfold Zbm
  have hgen : ∃ R, Fl.Zcb f = R := ⟨_, rfl⟩
  obtain ⟨R, hR⟩ := hgen
  rw [hR] at hRl ⊢
  (repeat' first | refine Zad ?_ | (refine Zac tok (by rfl) ?_; conv => whnf) | refine Zaf ?_)
  refine Zas (fun k : Nat => mkS [(1, .bp (1, 0, 0) 0), (2, .bp (2, 0, 0) 0), (3, Zea R), (4, .rs (30, 0, 0) 14 0 (Zbg f R k).length), (5, iv k)] [((1, 0, 0), Zan (Zai f)), ((2, 0, 0), Zan [iv 0, iv 0, .nsl]), ((30, 0, 0), .row true 14 (Zbg f R k).length (fun q => Zam ((Zbg f R k).getD q default)))]) (fun k => k ≤ f.blocks.length ∧ ∀ j, j < k → okAt f R j = true) (fun k => f.blocks.length - k) 0 ⟨Nat.zero_le _, fun j h => absurd h (Nat.not_lt_zero j)⟩ ?_ ?_
  · refine Weak.list [((1, 0, 0), .old (1, 0, 0), Zan (Zai f)), ((2, 0, 0), .old (2, 0, 0), Zan [iv 0, iv 0, .nsl]), ((30, 0, 0), .nil, .row true 14 0 (fun q => Zam ((Zbg f R 0).getD q default)))] rfl (by rfl) ?_ (.old rfl (BLe.refl _) (.old rfl (BLe.refl _) (.new .nil)))
    ((repeat' first | exact TLes.nil | refine TLes.cons (TLe.eq rfl) ?_ | refine TLes.cons (TLe.nilL rfl ?_) ?_); (all_goals first | rfl | skip))
  rintro k ⟨hk, hc⟩
  have hkb := keptB_le f R k
  ((repeat' ((fail_if_success (show AWp _ _ _ (Code.region 5 _ _) _ _)); (fail_if_success (show AWp _ _ _ (Code.region 7 _ _) _ _)); (fail_if_success (show AWp _ _ _ (Code.region 22 _ _) _ _)); first | refine Zad ?_ | (refine Zac tok (by rfl) ?_; conv => whnf) | refine Zaf ?_ | (refine Zah ?_; conv => whnf) | (refine Zar ?_; conv => whnf) | refine Zag rfl (fun hb => ?_) (fun hb => ?_) | (refine @And.intro (Zaa _ _ _ _) _ ?_ ?_; rotate_left; (conv => whnf); rotate_right))); all_goals (try ((guard_target = Zaa _ _ _ _); refine Zae ?_; (all_goals (try simp only [Zaa, kzz, kz11, kz12, maxL, Zab] at *)); all_goals omega)))
  · -- not reached
    have hkl : k < f.blocks.length := by rename_i h; simp only [decide_eq_true_eq] at h; omega
    have hf : R.getD k false = false := by simpa using hb
    clear hb
    have hno := keptB_no (f := f) hf
    (repeat' (refine Zac tok (by rfl) ?_; conv => whnf))
    refine ⟨k + 1, ⟨hkl, fun j hj => ?_⟩, by omega, ?_⟩
    · by_cases e : j = k
      · subst e; unfold okAt; rw [hf]; rfl
      · exact hc j (by omega)
    show Weak _ _ _ (mkS [(1, .bp (1, 0, 0) 0), (2, .bp (2, 0, 0) 0), (3, Zea R), (4, .rs (30, 0, 0) 14 0 (Zbg f R (k + 1)).length), (5, iv (k + 1))] [((1, 0, 0), Zan (Zai f)), ((2, 0, 0), Zan [iv 0, iv 0, .nsl]), ((30, 0, 0), .row true 14 (Zbg f R (k + 1)).length (fun q => Zam ((Zbg f R (k + 1)).getD q default)))])
    rw [hno]
    refine Weak.list [((1, 0, 0), .old (1, 0, 0), Zan (Zai f)), ((2, 0, 0), .old (2, 0, 0), Zan [iv 0, iv 0, .nsl]), ((30, 0, 0), .old (30, 0, 0), .row true 14 (Zbg f R k).length (fun q => Zam ((Zbg f R k).getD q default)))] rfl (by rfl) ?_ (.old rfl (BLe.refl _) (.old rfl (BLe.refl _) (.old rfl (BLe.refl _) .nil)))
    ((repeat' first | exact TLes.nil | refine TLes.cons (TLe.eq rfl) ?_ | refine TLes.cons (TLe.int ?_) ?_); (all_goals first | ((try (simp only [Zaa, kzz, kz11, kz12, maxL, Zab] at *)); exact Zal (by omega) (by omega)) | skip))
  · have hkl : k < f.blocks.length := by rename_i h; simp only [decide_eq_true_eq] at h; omega
    have hf : R.getD k false = true := by simpa using hb
    clear hb
    have hyes := keptB_yes (f := f) hf
    have hok : okAt f R k = decide (((Fl.next f k).length : Int) = Zc9 (f.blocks.getD k default)) := by unfold okAt; rw [hf]; rfl
    have hnam := named_in (f := f) hkl
    have hgen : ∃ b, f.blocks.getD k default = b := ⟨_, rfl⟩
    obtain ⟨b, hbk⟩ := hgen
    rw [hbk] at hyes hok hnam
    ((repeat' ((fail_if_success (show AWp _ _ _ (Code.region 8 _ _) _ _)); first | refine Zad ?_ | (refine Zac tok (by rfl) ?_; conv => whnf) | (refine @And.intro (Zaa _ _ _ _) _ ?_ ?_; rotate_left; (conv => whnf); rotate_right))); all_goals (try ((guard_target = Zaa _ _ _ _); refine Zae ?_; (all_goals (try simp only [Zaa, kzz, kz11, kz12, maxL, Zab] at *)); all_goals omega)))
    refine Zaz (Weak.list (tl := [(1, .bp (1, 0, 0) 0), (2, .bp (2, 0, 0) 0), (3, Zea R), (4, .rs (30, 0, 0) 14 0 (Zbg f R k).length), (5, iv k), (6, .bp (6, 0, 0) 0)]) [((1, 0, 0), .old (1, 0, 0), Zan (Zai f)), ((2, 0, 0), .old (2, 0, 0), Zan [iv 0, iv 0, .nsl]), ((30, 0, 0), .old (30, 0, 0), .row true 14 (Zbg f R k).length (fun q => Zam ((Zbg f R k).getD q default))), ((6, 0, 0), .old (6, 0, 0), .row true 14 1 (fun _ => Zam b))] rfl (by rfl) ?_ (.old rfl (BLe.refl _) (.old rfl (BLe.refl _) (.old rfl (BLe.refl _) (.old rfl (BLe.rowW (Nat.le_refl _) (ltS (Wks.of (by rw [← hbk, Int.toNat_natCast]; rfl)) lt0)) .nil))))) ?_
    · ((repeat' first | exact TLes.nil | refine TLes.cons (TLe.eq rfl) ?_); skip)
    (repeat' first | refine Zad ?_ | (refine Zac tok (by rfl) ?_; conv => whnf))
    refine Zb1 (α := Unit) (fun _ => mkS [(1, .bp (1, 0, 0) 0), (2, .bp (2, 0, 0) 0), (3, Zea R), (4, .rs (30, 0, 0) 14 0 (Zbg f R k).length), (5, iv k), (6, .bp (6, 0, 0) 0), (7, iv (if b.fin.kind = 2 then 1 else 0))] [((1, 0, 0), Zan (Zai f)), ((2, 0, 0), Zan [iv 0, iv 0, .nsl]), ((30, 0, 0), .row true 14 (Zbg f R k).length (fun q => Zam ((Zbg f R k).getD q default))), ((6, 0, 0), .row true 14 1 (fun _ => Zam b))]) (fun _ => True) ?_ ?_
    · refine Zag rfl (fun hb => ?_) (fun hb => ?_)
      · have h2 : b.fin.kind = 2 := by simpa using hb
        rw [if_pos h2]
        (repeat' (refine Zac tok (by rfl) ?_; conv => whnf))
        refine ⟨(), trivial, Weak.list [((1, 0, 0), .old (1, 0, 0), Zan (Zai f)), ((2, 0, 0), .old (2, 0, 0), Zan [iv 0, iv 0, .nsl]), ((30, 0, 0), .old (30, 0, 0), .row true 14 (Zbg f R k).length (fun q => Zam ((Zbg f R k).getD q default))), ((6, 0, 0), .old (6, 0, 0), .row true 14 1 (fun _ => Zam b))] rfl (by rfl) ?_ (.old rfl (BLe.refl _) (.old rfl (BLe.refl _) (.old rfl (BLe.refl _) (.old rfl (BLe.refl _) .nil))))⟩
        ((repeat' first | exact TLes.nil | refine TLes.cons (TLe.eq rfl) ?_); skip)
      · have h2 : ¬ b.fin.kind = 2 := by simpa using hb
        rw [if_neg h2]
        (repeat' (refine Zah ?_; conv => whnf))
        refine ⟨(), trivial, Weak.list [((1, 0, 0), .old (1, 0, 0), Zan (Zai f)), ((2, 0, 0), .old (2, 0, 0), Zan [iv 0, iv 0, .nsl]), ((30, 0, 0), .old (30, 0, 0), .row true 14 (Zbg f R k).length (fun q => Zam ((Zbg f R k).getD q default))), ((6, 0, 0), .old (6, 0, 0), .row true 14 1 (fun _ => Zam b))] rfl (by rfl) ?_ (.old rfl (BLe.refl _) (.old rfl (BLe.refl _) (.old rfl (BLe.refl _) (.old rfl (BLe.refl _) .nil))))⟩
        ((repeat' first | exact TLes.nil | refine TLes.cons (TLe.eq rfl) ?_); skip)
    rintro ⟨⟩ - τ hw
    refine Zaz hw ?_
    clear hw
    (repeat' first | refine Zad ?_ | (refine Zac tok (by rfl) ?_; conv => whnf))
    refine Zb1 (α := Unit) (fun _ => mkS [(1, .bp (1, 0, 0) 0), (2, .bp (2, 0, 0) 0), (3, Zea R), (4, .rs (30, 0, 0) 14 0 (Zbg f R k).length), (5, iv k), (6, .bp (6, 0, 0) 0), (7, iv (Zc9 b))] [((1, 0, 0), Zan (Zai f)), ((2, 0, 0), Zan [iv 0, iv 0, .nsl]), ((30, 0, 0), .row true 14 (Zbg f R k).length (fun q => Zam ((Zbg f R k).getD q default))), ((6, 0, 0), .row true 14 1 (fun _ => Zam b))]) (fun _ => True) ?_ ?_
    · refine Zag rfl (fun hb => ?_) (fun hb => ?_)
      · have h2 : b.fin.kind = 3 ∨ b.fin.kind = 4 := by simp at hb; exact hb
        have hm : Zc9 b = 2 := by unfold Zc9; rw [if_pos h2]
        rw [hm]
        (repeat' (refine Zac tok (by rfl) ?_; conv => whnf))
        refine ⟨(), trivial, Weak.list [((1, 0, 0), .old (1, 0, 0), Zan (Zai f)), ((2, 0, 0), .old (2, 0, 0), Zan [iv 0, iv 0, .nsl]), ((30, 0, 0), .old (30, 0, 0), .row true 14 (Zbg f R k).length (fun q => Zam ((Zbg f R k).getD q default))), ((6, 0, 0), .old (6, 0, 0), .row true 14 1 (fun _ => Zam b))] rfl (by rfl) ?_ (.old rfl (BLe.refl _) (.old rfl (BLe.refl _) (.old rfl (BLe.refl _) (.old rfl (BLe.refl _) .nil))))⟩
        ((repeat' first | exact TLes.nil | refine TLes.cons (TLe.eq rfl) ?_); skip)
      · have h2 : ¬ (b.fin.kind = 3 ∨ b.fin.kind = 4) := by simp at hb; omega
        have hm : Zc9 b = if b.fin.kind = 2 then 1 else 0 := by unfold Zc9; rw [if_neg h2]
        rw [hm]
        (repeat' (refine Zah ?_; conv => whnf))
        refine ⟨(), trivial, Weak.list [((1, 0, 0), .old (1, 0, 0), Zan (Zai f)), ((2, 0, 0), .old (2, 0, 0), Zan [iv 0, iv 0, .nsl]), ((30, 0, 0), .old (30, 0, 0), .row true 14 (Zbg f R k).length (fun q => Zam ((Zbg f R k).getD q default))), ((6, 0, 0), .old (6, 0, 0), .row true 14 1 (fun _ => Zam b))] rfl (by rfl) ?_ (.old rfl (BLe.refl _) (.old rfl (BLe.refl _) (.old rfl (BLe.refl _) (.old rfl (BLe.refl _) .nil))))⟩
        ((repeat' first | exact TLes.nil | refine TLes.cons (TLe.eq rfl) ?_ | refine TLes.cons (TLe.int ?_) ?_); skip)
        split <;> rfl
    rintro ⟨⟩ - τ hw
    refine Zaz hw ?_
    clear hw
    (repeat' first | refine Zad ?_ | (refine Zac tok (by rfl) ?_; conv => whnf))
    refine .inl ⟨_, _, _, uG (QC.fc (Fl.fc18 f k) rfl), ?_⟩
    conv => whnf
    skip
    refine Zag rfl (fun hb => ?_) (fun hb => ?_)
    · have hno : okAt f R k = false := by rw [hok]; simpa using hb
      rw [if_neg (fun h => by rw [allOk_no hkl hno] at h; exact absurd h.1 (by simp))]
      (repeat' first | refine Zad ?_ | (refine Zac tok (by rfl) ?_; conv => whnf) | (refine Zaj ?_; conv => whnf))
      exact ⟨_, rfl, Rel.agg (Rels.cons (Rel.imm rfl) (Rels.cons (Rel.imm rfl) (Rels.cons (Rel.imm rfl) Rels.nil)))⟩
    have hm : okAt f R k = true := by rw [hok]; simpa using hb
    have hnx : (Fl.next f k).length = Zc9 b := by rw [hok, decide_eq_true_eq] at hm; omega
    clear hb
    obtain ⟨hn1, hn2, hn3⟩ := hnam hnx
    refine Zah ?_
    conv => whnf
    (repeat' first | refine Zad ?_ | (refine Zac tok (by rfl) ?_; conv => whnf))
    refine Zb1 (α := Unit) (fun _ => mkS [(1, .bp (1, 0, 0) 0), (2, .bp (2, 0, 0) 0), (3, Zea R), (4, .rs (30, 0, 0) 14 0 (Zbg f R k).length), (5, iv k), (6, .bp (6, 0, 0) 0), (7, iv (Zc9 b))] [((1, 0, 0), Zan (Zai f)), ((2, 0, 0), Zan [iv 0, iv 0, .nsl]), ((30, 0, 0), .row true 14 (Zbg f R k).length (fun q => Zam ((Zbg f R k).getD q default))), ((6, 0, 0), .row true 14 1 (fun _ => Zam (ren1 R b)))]) (fun _ => True) ?_ ?_
    · refine Zag rfl (fun hb => ?_) (fun hb => ?_)
      · have hcd : 0 < Zc9 b := by simpa using hb
        clear hb
        obtain ⟨hn0, hn1⟩ := hn1 hcd
        have hcall := c_Number R b.fin.to hn0 (by rw [hRl]; omega)
        have e : (ren1 R b) = { b with fin := { b.fin with to := numB R b.fin.to.toNat } } := by unfold ren1; rw [if_pos hcd]
        (repeat' (refine Zac tok (by rfl) ?_; conv => whnf))
        refine .inl ⟨_, _, _, uG (QC.fc hcall rfl), ?_⟩
        conv => whnf
        skip
        refine ⟨(), trivial, Weak.list [((1, 0, 0), .old (1, 0, 0), Zan (Zai f)), ((2, 0, 0), .old (2, 0, 0), Zan [iv 0, iv 0, .nsl]), ((30, 0, 0), .old (30, 0, 0), .row true 14 (Zbg f R k).length (fun q => Zam ((Zbg f R k).getD q default))), ((6, 0, 0), .old (6, 0, 0), .row true 14 1 (fun _ => Zam (ren1 R b)))] rfl (by rfl) ?_ (.old rfl (BLe.refl _) (.old rfl (BLe.refl _) (.old rfl (BLe.refl _) (.old rfl (BLe.rowW (Nat.le_refl _) (ltS (Wks.of (by rw [e]; rfl)) lt0)) .nil))))⟩
        ((repeat' first | exact TLes.nil | refine TLes.cons (TLe.eq rfl) ?_); skip)
      · have hcd : ¬ 0 < Zc9 b := by simpa using hb
        clear hb
        have e : (ren1 R b) = b := by unfold ren1; rw [if_neg hcd]
        rw [e]
        (repeat' (refine Zah ?_; conv => whnf))
        refine ⟨(), trivial, Weak.list [((1, 0, 0), .old (1, 0, 0), Zan (Zai f)), ((2, 0, 0), .old (2, 0, 0), Zan [iv 0, iv 0, .nsl]), ((30, 0, 0), .old (30, 0, 0), .row true 14 (Zbg f R k).length (fun q => Zam ((Zbg f R k).getD q default))), ((6, 0, 0), .old (6, 0, 0), .row true 14 1 (fun _ => Zam b))] rfl (by rfl) ?_ (.old rfl (BLe.refl _) (.old rfl (BLe.refl _) (.old rfl (BLe.refl _) (.old rfl (BLe.refl _) .nil))))⟩
        ((repeat' first | exact TLes.nil | refine TLes.cons (TLe.eq rfl) ?_); skip)
    rintro ⟨⟩ - τ hw
    refine Zaz hw ?_
    clear hw
    have hk1 : (ren1 R b).fin.kind = b.fin.kind := by unfold ren1; split <;> rfl
    have hk2 : (ren1 R b).fin.els = b.fin.els := by unfold ren1; split <;> rfl
    have hk3 : (ren1 R b).fin.pad = b.fin.pad := by unfold ren1; split <;> rfl
    unfold renN at hyes
    have hgen : ∃ c, ren1 R b = c := ⟨_, rfl⟩
    obtain ⟨c, hc1⟩ := hgen
    rw [hc1] at hk1 hk2 hk3 hyes
    rw [← hk1, ← hk2] at hn2
    rw [← hk1, ← hk3] at hn3
    simp only [hc1]
    (repeat' first | refine Zad ?_ | (refine Zac tok (by rfl) ?_; conv => whnf))
    refine Zb1 (α := Unit) (fun _ => mkS [(1, .bp (1, 0, 0) 0), (2, .bp (2, 0, 0) 0), (3, Zea R), (4, .rs (30, 0, 0) 14 0 (Zbg f R k).length), (5, iv k), (6, .bp (6, 0, 0) 0), (7, iv (Zc9 b))] [((1, 0, 0), Zan (Zai f)), ((2, 0, 0), Zan [iv 0, iv 0, .nsl]), ((30, 0, 0), .row true 14 (Zbg f R k).length (fun q => Zam ((Zbg f R k).getD q default))), ((6, 0, 0), .row true 14 1 (fun _ => Zam (ren2 R c)))]) (fun _ => True) ?_ ?_
    · refine Zag rfl (fun hb => ?_) (fun hb => ?_)
      · have hcd : c.fin.kind = 3 := by simpa using hb
        clear hb
        obtain ⟨hn0, hn1⟩ := hn2 hcd
        have hcall := c_Number R c.fin.els hn0 (by rw [hRl]; omega)
        have e : (ren2 R c) = { c with fin := { c.fin with els := numB R c.fin.els.toNat } } := by unfold ren2; rw [if_pos hcd]
        (repeat' (refine Zac tok (by rfl) ?_; conv => whnf))
        refine .inl ⟨_, _, _, uG (QC.fc hcall rfl), ?_⟩
        conv => whnf
        skip
        refine ⟨(), trivial, Weak.list [((1, 0, 0), .old (1, 0, 0), Zan (Zai f)), ((2, 0, 0), .old (2, 0, 0), Zan [iv 0, iv 0, .nsl]), ((30, 0, 0), .old (30, 0, 0), .row true 14 (Zbg f R k).length (fun q => Zam ((Zbg f R k).getD q default))), ((6, 0, 0), .old (6, 0, 0), .row true 14 1 (fun _ => Zam (ren2 R c)))] rfl (by rfl) ?_ (.old rfl (BLe.refl _) (.old rfl (BLe.refl _) (.old rfl (BLe.refl _) (.old rfl (BLe.rowW (Nat.le_refl _) (ltS (Wks.of (by rw [e]; rfl)) lt0)) .nil))))⟩
        ((repeat' first | exact TLes.nil | refine TLes.cons (TLe.eq rfl) ?_); skip)
      · have hcd : ¬ c.fin.kind = 3 := by simpa using hb
        clear hb
        have e : (ren2 R c) = c := by unfold ren2; rw [if_neg hcd]
        rw [e]
        (repeat' (refine Zah ?_; conv => whnf))
        refine ⟨(), trivial, Weak.list [((1, 0, 0), .old (1, 0, 0), Zan (Zai f)), ((2, 0, 0), .old (2, 0, 0), Zan [iv 0, iv 0, .nsl]), ((30, 0, 0), .old (30, 0, 0), .row true 14 (Zbg f R k).length (fun q => Zam ((Zbg f R k).getD q default))), ((6, 0, 0), .old (6, 0, 0), .row true 14 1 (fun _ => Zam c))] rfl (by rfl) ?_ (.old rfl (BLe.refl _) (.old rfl (BLe.refl _) (.old rfl (BLe.refl _) (.old rfl (BLe.refl _) .nil))))⟩
        ((repeat' first | exact TLes.nil | refine TLes.cons (TLe.eq rfl) ?_); skip)
    rintro ⟨⟩ - τ hw
    refine Zaz hw ?_
    clear hw
    have hj1 : (ren2 R c).fin.kind = c.fin.kind := by unfold ren2; split <;> rfl
    have hj3 : (ren2 R c).fin.pad = c.fin.pad := by unfold ren2; split <;> rfl
    have hgen : ∃ d, ren2 R c = d := ⟨_, rfl⟩
    obtain ⟨d, hd1⟩ := hgen
    rw [hd1] at hj1 hj3 hyes
    rw [← hj1, ← hj3] at hn3
    simp only [hd1]
    (repeat' first | refine Zad ?_ | (refine Zac tok (by rfl) ?_; conv => whnf))
    refine Zb1 (α := Unit) (fun _ => mkS [(1, .bp (1, 0, 0) 0), (2, .bp (2, 0, 0) 0), (3, Zea R), (4, .rs (30, 0, 0) 14 0 (Zbg f R k).length), (5, iv k), (6, .bp (6, 0, 0) 0), (7, iv (Zc9 b))] [((1, 0, 0), Zan (Zai f)), ((2, 0, 0), Zan [iv 0, iv 0, .nsl]), ((30, 0, 0), .row true 14 (Zbg f R k).length (fun q => Zam ((Zbg f R k).getD q default))), ((6, 0, 0), .row true 14 1 (fun _ => Zam (ren3 R d)))]) (fun _ => True) ?_ ?_
    · refine Zag rfl (fun hb => ?_) (fun hb => ?_)
      · have hcd : d.fin.kind = 4 := by simpa using hb
        clear hb
        obtain ⟨hn0, hn1⟩ := hn3 hcd
        have hcall := c_Number R d.fin.pad hn0 (by rw [hRl]; omega)
        have e : (ren3 R d) = { d with fin := { d.fin with pad := numB R d.fin.pad.toNat } } := by unfold ren3; rw [if_pos hcd]
        (repeat' (refine Zac tok (by rfl) ?_; conv => whnf))
        refine .inl ⟨_, _, _, uG (QC.fc hcall rfl), ?_⟩
        conv => whnf
        skip
        refine ⟨(), trivial, Weak.list [((1, 0, 0), .old (1, 0, 0), Zan (Zai f)), ((2, 0, 0), .old (2, 0, 0), Zan [iv 0, iv 0, .nsl]), ((30, 0, 0), .old (30, 0, 0), .row true 14 (Zbg f R k).length (fun q => Zam ((Zbg f R k).getD q default))), ((6, 0, 0), .old (6, 0, 0), .row true 14 1 (fun _ => Zam (ren3 R d)))] rfl (by rfl) ?_ (.old rfl (BLe.refl _) (.old rfl (BLe.refl _) (.old rfl (BLe.refl _) (.old rfl (BLe.rowW (Nat.le_refl _) (ltS (Wks.of (by rw [e]; rfl)) lt0)) .nil))))⟩
        ((repeat' first | exact TLes.nil | refine TLes.cons (TLe.eq rfl) ?_); skip)
      · have hcd : ¬ d.fin.kind = 4 := by simpa using hb
        clear hb
        have e : (ren3 R d) = d := by unfold ren3; rw [if_neg hcd]
        rw [e]
        (repeat' (refine Zah ?_; conv => whnf))
        refine ⟨(), trivial, Weak.list [((1, 0, 0), .old (1, 0, 0), Zan (Zai f)), ((2, 0, 0), .old (2, 0, 0), Zan [iv 0, iv 0, .nsl]), ((30, 0, 0), .old (30, 0, 0), .row true 14 (Zbg f R k).length (fun q => Zam ((Zbg f R k).getD q default))), ((6, 0, 0), .old (6, 0, 0), .row true 14 1 (fun _ => Zam d))] rfl (by rfl) ?_ (.old rfl (BLe.refl _) (.old rfl (BLe.refl _) (.old rfl (BLe.refl _) (.old rfl (BLe.refl _) .nil))))⟩
        ((repeat' first | exact TLes.nil | refine TLes.cons (TLe.eq rfl) ?_); skip)
    rintro ⟨⟩ - τ hw
    refine Zaz hw ?_
    clear hw
    have hgen : ∃ e, ren3 R d = e := ⟨_, rfl⟩
    obtain ⟨e, he1⟩ := hgen
    rw [he1] at hyes
    simp only [he1]
    ((repeat' first | (refine Zac tok (by rfl) ?_; conv => whnf) | (refine @And.intro (Zaa _ _ _ _) _ ?_ ?_; rotate_left; (conv => whnf); rotate_right)); all_goals (try ((guard_target = Zaa _ _ _ _); refine Zae ?_; (first | refine And.intro (Zbx rfl ?_) ?_ | skip); (all_goals (try simp only [Zaa, kzz, kz11, kz12, maxL, Zab] at *)); all_goals omega)))
    refine ⟨k + 1, ⟨hkl, fun j hj => ?_⟩, by omega, ?_⟩
    · by_cases e : j = k
      · subst e; exact hm
      · exact hc j (by omega)
    show Weak _ _ _ (mkS [(1, .bp (1, 0, 0) 0), (2, .bp (2, 0, 0) 0), (3, Zea R), (4, .rs (30, 0, 0) 14 0 (Zbg f R (k + 1)).length), (5, iv (k + 1))] [((1, 0, 0), Zan (Zai f)), ((2, 0, 0), Zan [iv 0, iv 0, .nsl]), ((30, 0, 0), .row true 14 (Zbg f R (k + 1)).length (fun q => Zam ((Zbg f R (k + 1)).getD q default)))])
    rw [hyes]
    refine Weak.list [((1, 0, 0), .old (1, 0, 0), Zan (Zai f)), ((2, 0, 0), .old (2, 0, 0), Zan [iv 0, iv 0, .nsl]), ((30, 0, 0), .old (82, 0, 0), .row true 14 (Zbg f R k ++ [e]).length (fun q => Zam ((Zbg f R k ++ [e]).getD q default)))] rfl (by rfl) ?_ (.old rfl (BLe.refl _) (.old rfl (BLe.refl _) (.old rfl (BLe.rowW (Nat.le_of_eq (by simp)) (fun z hz => Wks.of ?_)) .nil)))
    · ((repeat' first | exact TLes.nil | refine TLes.cons (TLe.eq rfl) ?_ | refine TLes.cons (TLe.rsL rfl ?_) ?_ | refine TLes.cons (TLe.int ?_) ?_); (all_goals first | ((try (simp only [Zaa, kzz, kz11, kz12, maxL, Zab] at *)); exact Zal (by omega) (by omega)) | skip))
      all_goals (try simp)
    · rw [List.length_append] at hz
      refine app_fnW (sz := 14) (f := fun q => Zam ((Zbg f R k).getD q default)) (g := fun q => Zam ((Zbg f R k ++ [e]).getD q default)) (c := Zam e) (fun i hi => ?_) ?_ rfl hz
      · simp only [List.getD_eq_getElem?_getD, List.getElem?_append_left hi]
      · simp only [List.getD_eq_getElem?_getD, List.getElem?_append_right (Nat.le_refl _), Nat.sub_self]; rfl
  · have hkl : k = f.blocks.length := by simp only [decide_eq_false_iff_not] at hb; omega
    clear hb
    subst hkl
    have hall := allOk_yes (f := f) hc
    (repeat' (refine Zac tok (by rfl) ?_; conv => whnf))
    refine Zag rfl (fun hb => ?_) (fun hb => ?_)
    · have hpos : 0 < (Zbg f R f.blocks.length).length := by simpa using hb
      clear hb
      rw [if_pos ⟨hall, hpos⟩]
      (repeat' first | refine Zad ?_ | (refine Zac tok (by rfl) ?_; conv => whnf) | (refine Zaj ?_; conv => whnf))
      exact ⟨_, rfl, Rel.agg (Rels.cons (Rel.imm rfl) (Rels.cons (Rel.imm rfl) (Rels.cons (Rel.row rfl rfl rfl (fun _ _ => rfl)) Rels.nil)))⟩
    · have hpos : ¬ 0 < (Zbg f R f.blocks.length).length := by simpa using hb
      clear hb
      rw [if_neg (fun h => hpos h.2)]
      (repeat' first | refine Zad ?_ | (refine Zac tok (by rfl) ?_; conv => whnf) | (refine Zah ?_; conv => whnf) | (refine Zaj ?_; conv => whnf))
      exact ⟨_, rfl, Rel.agg (Rels.cons (Rel.imm rfl) (Rels.cons (Rel.imm rfl) (Rels.cons (Rel.imm rfl) Rels.nil)))⟩
end Go.Proofs.Ytmanpbgaihdalaa
namespace Go.Proofs.Ytmanpbgaihdalaa
open Go Dv
set_option maxRecDepth 10000
set_option linter.unusedSimpArgs false
def manyN (b : Zbk) : Nat := (goalsL b).length + if b.fin.kind = 4 then 1 else 0
def fitAt (f : Func) (r : List Bool) (n : Nat) : Bool := bif r.getD n false then decide (((Fl.next f n).length : Int) = manyN (f.blocks.getD n default)) else true
def fitsB (f : Func) (r : List Bool) : Bool := ((List.range f.blocks.length).all fun n => fitAt f r n) && decide (0 < f.blocks.length)
theorem fits_no {f : Func} {r : List Bool} {n : Nat} (hn : n < f.blocks.length) (h : fitAt f r n = false) : fitsB f r = false := by
  unfold fitsB
  rw [Bool.and_eq_false_iff]
  left
  rw [List.all_eq_false]
  exact ⟨n, List.mem_range.2 hn, by rw [h]; simp⟩
theorem fits_all {f : Func} {r : List Bool} (h : ∀ n, n < f.blocks.length → fitAt f r n = true) : fitsB f r = decide (0 < f.blocks.length) := by
  unfold fitsB
  rw [List.all_eq_true.2 fun n hn => h n (List.mem_range.1 hn), Bool.true_and]
theorem goalsL_len (b : Zbk) : (goalsL b).length ≤ 2 := by
  unfold goalsL; split
  · simp
  · split <;> simp
set_option maxHeartbeats 1000000 in
theorem c_fits (f : Func) (r : List Bool) (hr : r.length = f.blocks.length) : FC Try.prog 98 [.agg (Zai f), Zea r] (.bool (fitsB f r)) := by
  refine Zay tok Try.func98 rfl (by decide +kernel) (Nat.le_of_ble_eq_true rfl) ?_
  refine Zat 1 (fun hl => ?_)
  have hmx : maxL = 4294967296 := rfl
  have hl0 : r.length ≤ maxL := hl.1
  clear hl
  (repeat' first | refine Zad ?_ | (refine Zac tok (by rfl) ?_; conv => whnf) | refine Zaf ?_)
  refine Zas (fun k : Nat => mkS [(2, .bp (2, 0, 0) 0), (4, .bool false), (9, Zea r), (10, iv r.length), (11, iv k)] [((2, 0, 0), Zan (Zai f))]) (fun k => k ≤ f.blocks.length ∧ ∀ j, j < k → fitAt f r j = true) (fun k => f.blocks.length - k) 0 ⟨Nat.zero_le _, fun j h => absurd h (Nat.not_lt_zero j)⟩ ?_ ?_
  · refine Weak.list [((2, 0, 0), .old (2, 0, 0), Zan (Zai f))] rfl (by rfl) ?_ (.old rfl (BLe.refl _) .nil)
    ((repeat' first | exact TLes.nil | refine TLes.cons (TLe.eq rfl) ?_); skip)
  rintro k ⟨hk, hc⟩
  (repeat' ((fail_if_success (show AWp _ _ _ (Code.region 3 _ _) _ _)); first | refine Zad ?_ | (refine Zac tok (by rfl) ?_; conv => whnf) | refine Zaf ?_ | (refine Zah ?_; conv => whnf) | (refine Zar ?_; conv => whnf) | (refine Zaj ?_; conv => whnf) | refine Zag rfl (fun hb => ?_) (fun hb => ?_)))
  · have hkl : k < f.blocks.length := by simp only [decide_eq_true_eq] at hb; omega
    clear hb
    have hgen : ∃ b, f.blocks.getD k default = b := ⟨_, rfl⟩
    obtain ⟨b, hbk⟩ := hgen
    have hgl := goalsL_len b
    have hgo := c_Goals b
    ((repeat' ((fail_if_success (show AWp _ _ _ (Code.region 5 _ _) _ _)); first | refine Zad ?_ | (refine Zac tok (by rfl) ?_; conv => whnf) | (refine @And.intro (Zaa _ _ _ _) _ ?_ ?_; rotate_left; (conv => whnf); rotate_right))); all_goals (try ((guard_target = Zaa _ _ _ _); refine Zae ?_; (all_goals (try simp only [Zaa, kzz, kz11, kz12, maxL, Zab] at *)); all_goals omega)))
    refine Zaz (Weak.list (tl := [(2, .bp (2, 0, 0) 0), (4, .bool false), (5, iv k), (6, .bool (List.getD r k false)), (7, .bp (7, 0, 0) 0), (9, Zea r), (10, iv r.length), (11, iv k)]) [((2, 0, 0), .old (2, 0, 0), Zan (Zai f)), ((7, 0, 0), .old (7, 0, 0), .row true 14 1 (fun _ => Zam b))] rfl (by rfl) ?_ (.old rfl (BLe.refl _) (.old rfl (BLe.rowW (Nat.le_refl _) (ltS (Wks.of (by rw [← hbk, Int.toNat_natCast]; rfl)) lt0)) .nil))) ?_
    · ((repeat' first | exact TLes.nil | refine TLes.cons (TLe.eq rfl) ?_); skip)
    (repeat' (refine Zac tok (by rfl) ?_; conv => whnf))
    refine .inl ⟨_, _, _, uG (QC.fo (rd := []) hgo (Ress.imms rfl) (.inl rfl) rfl), ?_⟩
    conv => whnf
    (repeat' first | refine Zad ?_ | (refine Zac tok (by rfl) ?_; conv => whnf))
    refine Zb1 (α := Unit) (fun _ => mkS [(2, .bp (2, 0, 0) 0), (4, .bool false), (5, iv k), (6, .bool (List.getD r k false)), (7, .bp (7, 0, 0) 0), (8, iv (manyN b)), (9, Zea r), (10, iv r.length), (11, iv k)] [((2, 0, 0), Zan (Zai f)), ((7, 0, 0), .row true 14 1 (fun _ => Zam b))]) (fun _ => True) ?_ ?_
    · refine Zag rfl (fun hb => ?_) (fun hb => ?_)
      · have h4 : b.fin.kind = 4 := by simpa using hb
        have hm : manyN b = (goalsL b).length + 1 := by unfold manyN; rw [if_pos h4]
        (repeat' (refine Zac tok (by rfl) ?_; conv => whnf))
        refine ⟨(), trivial, Weak.list [((2, 0, 0), .old (2, 0, 0), Zan (Zai f)), ((7, 0, 0), .old (7, 0, 0), .row true 14 1 (fun _ => Zam b))] rfl (by rfl) ?_ (.old rfl (BLe.refl _) (.old rfl (BLe.refl _) .nil))⟩
        ((repeat' first | exact TLes.nil | refine TLes.cons (TLe.eq rfl) ?_ | refine TLes.cons (TLe.int ?_) ?_); (all_goals first | ((try (simp only [Zaa, kzz, kz11, kz12, maxL, Zab] at *)); (simp (disch := omega) only [Zal]; omega)) | skip))
      · have h4 : ¬ b.fin.kind = 4 := by simpa using hb
        have hm : manyN b = (goalsL b).length := by unfold manyN; rw [if_neg h4]; rfl
        (repeat' (refine Zah ?_; conv => whnf))
        refine ⟨(), trivial, Weak.list [((2, 0, 0), .old (2, 0, 0), Zan (Zai f)), ((7, 0, 0), .old (7, 0, 0), .row true 14 1 (fun _ => Zam b))] rfl (by rfl) ?_ (.old rfl (BLe.refl _) (.old rfl (BLe.refl _) .nil))⟩
        ((repeat' first | exact TLes.nil | refine TLes.cons (TLe.eq rfl) ?_ | refine TLes.cons (TLe.int ?_) ?_); (all_goals first | ((try (simp only [Zaa, kzz, kz11, kz12, maxL, Zab] at *)); omega) | skip))
    rintro ⟨⟩ - τ hw
    refine Zaz hw ?_
    clear hw
    (repeat' ((fail_if_success (show AWp _ _ _ (Code.region 8 _ _) _ _)); refine Zad ?_))
    cases hrk : r.getD k false with
    | false =>
      have hfit : fitAt f r k = true := by unfold fitAt; rw [hrk]; rfl
      refine Zf1 tok (fun j => bif Nat.beq j 1 then some false else none) (by rfl) ?_
      conv => whnf
      refine ⟨rfl, ?_⟩
      conv => whnf
      (repeat' first | refine Zad ?_ | (refine Zac tok (by rfl) ?_; conv => whnf) | (refine Zah ?_; conv => whnf) | (refine Zaj ?_; conv => whnf) | refine Zag rfl (fun hb => ?_) (fun hb => ?_))
      · cases hb
      refine ⟨k + 1, ⟨hkl, fun j hj => ?_⟩, by omega, ?_⟩
      · by_cases e : j = k
        · subst e; exact hfit
        · exact hc j (by omega)
      refine Weak.list [((2, 0, 0), .old (2, 0, 0), Zan (Zai f))] rfl (by rfl) ?_ (.old rfl (BLe.refl _) .nil)
      ((repeat' first | exact TLes.nil | refine TLes.cons (TLe.eq rfl) ?_ | refine TLes.cons (TLe.int ?_) ?_); (all_goals first | ((try (simp only [Zaa, kzz, kz11, kz12, maxL, Zab] at *)); exact Zal (by omega) (by omega)) | skip))
    | true =>
      have hfit : fitAt f r k = decide (((Fl.next f k).length : Int) = manyN b) := by unfold fitAt; rw [hrk, hbk]; rfl
      refine Zf1 tok (fun j => bif Nat.beq j 1 then some true else none) (by rfl) ?_
      conv => whnf
      refine ⟨rfl, ?_⟩
      conv => whnf
      refine .inl ⟨_, _, _, uG (QC.fo (rd := []) (Fl.fo17 f k) (Ress.imms rfl) (.inl rfl) rfl), ?_⟩
      conv => whnf
      (repeat' first | refine Zad ?_ | (refine Zac tok (by rfl) ?_; conv => whnf) | (refine Zah ?_; conv => whnf) | (refine Zaj ?_; conv => whnf) | refine Zag rfl (fun hb => ?_) (fun hb => ?_))
      · refine ⟨_, rfl, Rel.bool ?_⟩
        refine (fits_no hkl ?_).symm
        rw [hfit]; simpa using hb
      refine ⟨k + 1, ⟨hkl, fun j hj => ?_⟩, by omega, ?_⟩
      · by_cases e : j = k
        · subst e; rw [hfit]; simpa using hb
        · exact hc j (by omega)
      refine Weak.list [((2, 0, 0), .old (2, 0, 0), Zan (Zai f))] rfl (by rfl) ?_ (.old rfl (BLe.refl _) .nil)
      ((repeat' first | exact TLes.nil | refine TLes.cons (TLe.eq rfl) ?_ | refine TLes.cons (TLe.int ?_) ?_); (all_goals first | ((try (simp only [Zaa, kzz, kz11, kz12, maxL, Zab] at *)); exact Zal (by omega) (by omega)) | skip))
  · have hkl : k = f.blocks.length := by simp only [decide_eq_false_iff_not] at hb; omega
    clear hb
    subst hkl
    skip
    refine ⟨_, rfl, Rel.bool ?_⟩
    rw [fits_all hc]
    simp
end Go.Proofs.Ytmanpbgaihdalaa
namespace Go.Proofs.Ytmanpbgaihdalaa
open Go Dv
set_option maxRecDepth 10000
set_option linter.unusedSimpArgs false
def sel (b : Bool) (x y : AV) : AV := bif b then x else y
def blkO (b : Zbk) (x : AV) : List AV := [.bool b.landing, iv b.pad.dst, u16s b.pad.catch_, .bool b.pad.all, .bool b.pad.cleanup, x, iv b.fin.kind, iv b.fin.a, iv b.fin.dst, iv b.fin.f, ints b.fin.args, iv b.fin.to, iv b.fin.els, iv b.fin.pad]
def insR (l : List Ins) : Zap := .row true 7 l.length (fun j => Zbd (l.getD j default))
def blkR (i : Nat) (l : List Zbk) (k : Nat) (c : Nat → AV) : Zap := .row false 14 l.length (fun q => blkO (l.getD q default) (sel (Nat.blt q k) (.rs (1001, i, q) 7 0 (l.getD q default).ins.length) (c q)))
def funR (l : List Func) (k : Nat) (c : Nat → AV) : Zap := .row false 3 l.length (fun j => [iv (l.getD j default).params, iv (l.getD j default).regs, sel (Nat.blt j k) (.rs (1000, j, 0) 14 0 (l.getD j default).blocks.length) (c j)])
def insF (l : List Func) (n k : Nat) : Zaq := famC 1001 (fun i q => bif (Nat.blt i n && Nat.blt q (l.getD i default).blocks.length) || (Nat.beq i n && Nat.blt q k) then some (insR ((l.getD i default).blocks.getD q default).ins) else none)
def blkF (l : List Func) (n : Nat) : Zaq := famC 1000 (fun i z => bif Nat.beq z 0 && Nat.blt i n then some (blkR i (l.getD i default).blocks (l.getD i default).blocks.length (fun _ => .any)) else none)
theorem Zbc {a i : Nat} (h : i ≤ a) {x y : AV} : sel (Nat.blt a i) x y = y := by
  have : Nat.blt a i = false := by rw [Bool.eq_false_iff]; intro h2; rw [Nat.blt_eq] at h2; omega
  rw [this]; rfl
theorem Za0 {a i : Nat} (h : a < i) {x y : AV} : sel (Nat.blt a i) x y = x := by
  have : Nat.blt a i = true := by rw [Nat.blt_eq]; exact h
  rw [this]; rfl
theorem Zcm {i : Nat} {x y : AV} : sel (Nat.beq i i) x y = x := by
  have : Nat.beq i i = true := by simp
  rw [this]; rfl
theorem Zeb {i j : Nat} (h : i ≠ j) {x y : AV} : sel (Nat.beq i j) x y = y := by
  have : Nat.beq i j = false := by rw [Bool.eq_false_iff]; intro h2; exact h (Nat.eq_of_beq_eq_true h2)
  rw [this]; rfl
theorem beq0_and {z n i : Nat} : (Nat.beq z 0 && Nat.blt i n) = true ↔ z = 0 ∧ i < n := by
  rw [Bool.and_eq_true, Nat.blt_eq]; simp
theorem blkF_some {l : List Func} {n : Nat} {j : Dv.Id} {b : Zap} (h : blkF l n j = some b) : ∃ i, j = (1000, i, 0) ∧ i < n ∧ b = blkR i (l.getD i default).blocks (l.getD i default).blocks.length (fun _ => .any) := by
  obtain ⟨p, q, rfl, h3⟩ := Zfd h
  cases e : (Nat.beq q 0 && Nat.blt p n) with
  | false => rw [e] at h3; cases h3
  | true =>
    rw [e] at h3
    obtain ⟨rfl, h2⟩ := beq0_and.1 e
    exact ⟨p, rfl, h2, (Option.some.inj h3).symm⟩
theorem blkF_at {l : List Func} {n i : Nat} (h : i < n) : blkF l n (1000, i, 0) = some (blkR i (l.getD i default).blocks (l.getD i default).blocks.length (fun _ => .any)) := by
  show (bif (Nat.beq 0 0 && Nat.blt i n) then _ else none) = _
  rw [beq0_and.2 ⟨rfl, h⟩]; rfl
theorem insC {n k i q nb : Nat} : ((Nat.blt i n && Nat.blt q nb) || (Nat.beq i n && Nat.blt q k)) = true ↔ (i < n ∧ q < nb) ∨ (i = n ∧ q < k) := by
  rw [Bool.or_eq_true, Bool.and_eq_true, Bool.and_eq_true, Nat.blt_eq, Nat.blt_eq, Nat.blt_eq]; simp
theorem insF_some {l : List Func} {n k : Nat} {j : Dv.Id} {b : Zap} (h : insF l n k j = some b) : ∃ i q, j = (1001, i, q) ∧ ((i < n ∧ q < (l.getD i default).blocks.length) ∨ (i = n ∧ q < k)) ∧ b = insR ((l.getD i default).blocks.getD q default).ins := by
  obtain ⟨p, q, rfl, h3⟩ := Zfd h
  cases e : ((Nat.blt p n && Nat.blt q (l.getD p default).blocks.length) || (Nat.beq p n && Nat.blt q k)) with
  | false => rw [e] at h3; cases h3
  | true => rw [e] at h3; exact ⟨p, q, rfl, insC.1 e, (Option.some.inj h3).symm⟩
theorem insF_at {l : List Func} {n k i q : Nat} (h : (i < n ∧ q < (l.getD i default).blocks.length) ∨ (i = n ∧ q < k)) : insF l n k (1001, i, q) = some (insR ((l.getD i default).blocks.getD q default).ins) := by
  show (bif ((Nat.blt i n && Nat.blt q (l.getD i default).blocks.length) || (Nat.beq i n && Nat.blt q k)) then _ else none) = _
  rw [insC.2 h]; rfl
def treeF (l : List Func) (n k : Nat) : Zaq := orH (blkF l n) (insF l n k)
theorem Zbr {l : List Func} {n k i : Nat} (h : i < n) : treeF l n k (1000, i, 0) = some (blkR i (l.getD i default).blocks (l.getD i default).blocks.length (fun _ => .any)) := by
  unfold treeF orH; rw [blkF_at h]
theorem Zbe {l : List Func} {n k i q : Nat} (h : (i < n ∧ q < (l.getD i default).blocks.length) ∨ (i = n ∧ q < k)) : treeF l n k (1001, i, q) = some (insR ((l.getD i default).blocks.getD q default).ins) := by
  show insF l n k (1001, i, q) = _
  exact insF_at h
theorem Zch {l : List Func} {n k : Nat} {j : Dv.Id} {b : Zap} (h : treeF l n k j = some b) : (∃ i, j = (1000, i, 0) ∧ i < n ∧ b = blkR i (l.getD i default).blocks (l.getD i default).blocks.length (fun _ => .any)) ∨
    ∃ i q, j = (1001, i, q) ∧ ((i < n ∧ q < (l.getD i default).blocks.length) ∨ (i = n ∧ q < k)) ∧ b = insR ((l.getD i default).blocks.getD q default).ins := by
  rcases Zfr h with e | ⟨_, e⟩
  · exact .inl (blkF_some e)
  · exact .inr (insF_some e)
def copyH (l : List Func) : Zaq := orH (Za6 [((900, 0, 0), funR l l.length (fun _ => .any))]) (treeF l l.length 0)
section
variable {src : Dv.Id → Option Dv.Id} {h h' : Zaq}
theorem Zc7 (l : List Ins) : GB src h h' (insR l) (insR l) := GB.rowI (Nat.le_refl _) (fun _ _ => ⟨rfl, rfl⟩)
theorem Zb8 {b : Zbk} {x y : AV} (hx : GV src h h' x y) : GVs src h h' (blkO b x) (blkO b y) :=
  .cons (.imm rfl) (.cons (.imm rfl) (.cons (.imm rfl) (.cons (.imm rfl) (.cons (.imm rfl) (.cons hx (GVs.imm rfl))))))
theorem Zcq {i i' : Nat} {l : List Zbk} {k k' : Nat} {c c' : Nat → AV} (hc : ∀ q, q < l.length → GV src h h' (sel (Nat.blt q k) (.rs (1001, i, q) 7 0 (l.getD q default).ins.length) (c q)) (sel (Nat.blt q k') (.rs (1001, i', q) 7 0 (l.getD q default).ins.length) (c' q))) :
    GB src h h' (blkR i l k c) (blkR i' l k' c') := GB.row (Nat.le_refl _) (fun q hq => Zb8 (hc q hq)) (fun e => by cases e)
theorem GB_fun {l : List Func} {k k' : Nat} {c c' : Nat → AV} (hc : ∀ q, q < l.length → GV src h h' (sel (Nat.blt q k) (.rs (1000, q, 0) 14 0 (l.getD q default).blocks.length) (c q)) (sel (Nat.blt q k') (.rs (1000, q, 0) 14 0 (l.getD q default).blocks.length) (c' q))) :
    GB src h h' (funR l k c) (funR l k' c') := GB.row (Nat.le_refl _) (fun q hq => .cons (.imm rfl) (.cons (.imm rfl) (.cons (hc q hq) .nil))) (fun e => by cases e)
end
theorem keep_fun {src : Dv.Id → Option Dv.Id} {h h' : Zaq} {i j n m : Nat} {x : AV} {b b2 : Zap} (h1 : j < i → h' (1000, j, 0) = some b) (hs : src (1000, j, 0) = some (1000, j, 0)) (h27 : h' (27, 8, 0) = some b2) (hs27 : src (27, 8, 0) = some (27, 8, 0)) (hx : immD x = true) :
    GV src h h' (sel (Nat.blt j i) (.rs (1000, j, 0) 14 0 n) (sel (Nat.beq j i) (.rs (27, 8, 0) 14 0 m) x)) (sel (Nat.blt j i) (.rs (1000, j, 0) 14 0 n) (sel (Nat.beq j i) (.rs (27, 8, 0) 14 0 m) x)) := by
  by_cases hji : j < i
  · exact .cc (Za0 hji) (Za0 hji) (.rs (h1 hji) hs rfl rfl)
  · by_cases e : j = i
    · subst e
      exact .cc (by rw [Zbc (Nat.le_refl _), Zcm]) (by rw [Zbc (Nat.le_refl _), Zcm]) (.rs h27 hs27 rfl rfl)
    · exact .cc (by rw [Zbc (by omega), Zeb e]) (by rw [Zbc (by omega), Zeb e]) (.imm hx)
theorem tree_hd0 {fs : List Func} {n k : Nat} {c : Dv.Id} (hc : treeF fs n k c = none) : ∀ j, (treeF fs n k j).isSome = true → srcL [] j ≠ some c := fun j hj e => by
  cases e; rw [hc] at hj; cases hj
theorem Zeu {c : Dv.Id} {o : Option Dv.Id} : srcL [(c, o)] c = o := by simp [srcL, Za5.2 rfl]
theorem Zb2 {c j : Dv.Id} {o : Option Dv.Id} (h : c ≠ j) : srcL [(c, o)] j = some j := by simp [srcL, Zbf.2 h]
theorem updR_self {f : Nat → List AV} {k : Nat} {c : List AV} : updR f k c k = c := by
  unfold updR
  have : Nat.beq k k = true := by simp
  rw [this]; rfl
theorem keep_blk {src : Dv.Id → Option Dv.Id} {h h' : Zaq} {i k q n m : Nat} {x : AV} {b b2 : Zap} (h1 : q < k → h' (1001, i, q) = some b) (hs : src (1001, i, q) = some (1001, i, q)) (h57 : h' (57, 0, 0) = some b2) (hs57 : src (57, 0, 0) = some (57, 0, 0)) (hx : immD x = true := by rfl) :
    GV src h h' (sel (Nat.blt q k) (.rs (1001, i, q) 7 0 n) (sel (Nat.beq q k) (.rs (57, 0, 0) 7 0 m) x)) (sel (Nat.blt q k) (.rs (1001, i, q) 7 0 n) (sel (Nat.beq q k) (.rs (57, 0, 0) 7 0 m) x)) := by
  by_cases hji : q < k
  · exact .cc (Za0 hji) (Za0 hji) (.rs (h1 hji) hs rfl rfl)
  · by_cases e : q = k
    · subst e
      exact .cc (by rw [Zbc (Nat.le_refl _), Zcm]) (by rw [Zbc (Nat.le_refl _), Zcm]) (.rs h57 hs57 rfl rfl)
    · exact .cc (by rw [Zbc (by omega), Zeb e]) (by rw [Zbc (by omega), Zeb e]) (.imm hx)
theorem c_Copy (fs : List Func) : HF Try.prog 26 [.agg (Zax ⟨fs⟩)] (.agg [.rs (900, 0, 0) 3 0 fs.length]) (copyH fs) := by
  refine HF_intro tok Try.func26 rfl (by decide +kernel) (Nat.le_of_ble_eq_true rfl) ?_
  refine Zat 0 (fun hl => ?_)
  have hl0 : fs.length ≤ maxL := hl.1.1
  have hmx : maxL = 4294967296 := rfl
  have hl1 : ∀ i, i < fs.length → (fs.getD i default).blocks.length ≤ maxL ∧ ∀ k, k < (fs.getD i default).blocks.length → ((fs.getD i default).blocks.getD k default).ins.length ≤ maxL := fun i hi => by
    have h1 := hl.1.2 i hi
    exact ⟨h1.2.2.1.1, fun k hk => (h1.2.2.1.2 k hk).2.2.2.2.2.1.1⟩
  clear hl
  (repeat' first | refine Zad ?_ | (refine Zac tok (by rfl) ?_; conv => whnf))
  refine .inl ⟨_, _, _, uG (QC.fo (rd := []) (c_CloneFuncs fs) (Ress.imms rfl) (.inl rfl) rfl), ?_⟩
  conv => whnf
  (repeat' first | refine Zad ?_ | (refine Zac tok (by rfl) ?_; conv => whnf) | refine Zaf ?_)
  refine Zas (fun i : Nat => mkF [(1, .bp (1, 0, 0) 0), (2, .bp (2, 0, 0) 0), (14, iv fs.length), (15, iv i)]
      [((1, 0, 0), .row false 1 1 (fun _ => [.rs (10, 0, 0) 3 0 fs.length])), ((2, 0, 0), Zan [.nsl]), ((10, 0, 0), funR fs i (fun j => Zbn (fs.getD j default).blocks))] (treeF fs i 0))
    (fun i => i ≤ fs.length) (fun i => fs.length - i) 0 (Nat.zero_le _) ?_ ?_
  · refine Weak.fam [] rfl (fun i hi => by cases hi) ?_ ?_ ?_ (fun i hi => by cases hi)
    · (repeat' first | exact TLg.nil | refine TLg.cons (GV.imm rfl) ?_ | refine TLg.cons (GV.bp rfl rfl) ?_)
      all_goals rfl
    · refine .old rfl rfl (GB.one (.cons (.rs rfl rfl rfl rfl) .nil) (fun e => by cases e)) (.old rfl rfl (GB.one (GVs.imm rfl) (fun _ => rfl)) (.old rfl rfl (GB.row (Nat.le_refl _) (fun j hj => .cons (.imm rfl) (.cons (.imm rfl) (.cons ?_ .nil))) (fun e => by cases e)) .nil))
      rw [Zbc (Nat.zero_le _)]; exact GV.imm rfl
    · intro j b e
      rcases Zch e with ⟨i, _, h, _⟩ | ⟨i, q, _, h, _⟩ <;> omega
  intro i hi
  ((repeat' ((fail_if_success (show AWp _ _ _ (Code.region 6 _ _) _ _)); first | refine Zad ?_ | (refine Zac tok (by rfl) ?_; conv => whnf) | refine Zaf ?_ | (refine Zah ?_; conv => whnf) | (refine Zar ?_; conv => whnf) | (refine Zaj ?_; conv => whnf) | refine Zag rfl (fun hb => ?_) (fun hb => ?_) | (refine @And.intro (Zaa _ _ _ _) _ ?_ ?_; rotate_left; (conv => whnf); rotate_right))); all_goals (try ((guard_target = Zaa _ _ _ _); refine Zae ?_; (all_goals (try simp only [Zaa, kzz, kz11, kz12, maxL, Zab] at *)); all_goals omega)))
  · have hlt : i < fs.length := by simp only [decide_eq_true_eq] at hb; omega
    clear hb
    have hz : 0 + (i : Int).toNat = i := by simp
    ((repeat' ((fail_if_success (show AWp _ _ _ (Code.region 7 _ _) _ _)); first | (refine Zac tok (by rfl) ?_; conv => whnf) | (refine @And.intro (Zaa _ _ _ _) _ ?_ ?_; rotate_left; (conv => whnf); rotate_right))); all_goals (try ((guard_target = Zaa _ _ _ _); refine Zae ?_; (all_goals (try simp only [Zaa, kzz, kz11, kz12, maxL, Zab] at *)); all_goals omega)))
    refine fAV (y := Zbn (fs.getD i default).blocks) ?_ ?_
    · show sel _ _ (Zbn (fs.getD (0 + (i : Int).toNat) default).blocks) = _
      rw [hz, Zbc (Nat.le_refl _)]
    conv => whnf
    skip
    refine .inl ⟨_, _, _, uG (QC.fo (rd := []) (c_CloneBlocks (fs.getD i default).blocks) (Ress.imms rfl) (.inl rfl) rfl), ?_⟩
    conv => whnf
    ((repeat' ((fail_if_success (show AWp _ _ _ (Code.region 7 _ _) _ _)); first | refine Zad ?_ | (refine @And.intro (Zaa _ _ _ _) _ ?_ ?_; rotate_left; (conv => whnf); rotate_right))); all_goals (try ((guard_target = Zaa _ _ _ _); refine Zae ?_; (all_goals (try simp only [Zaa, kzz, kz11, kz12, maxL, Zab] at *)); all_goals omega)))
    have hbs : ∃ bs, (fs.getD i default).blocks = bs := ⟨_, rfl⟩
    obtain ⟨bs, hbs⟩ := hbs
    refine Zaz (Weak.fam (tl := [(1, .bp (1, 0, 0) 0), (2, .bp (2, 0, 0) 0), (14, iv fs.length), (15, iv i), (4, .rp (10, 0, 0) 3 i 0)]) (hl := [((1, 0, 0), .row false 1 1 (fun _ => [.rs (10, 0, 0) 3 0 fs.length])), ((2, 0, 0), Zan [.nsl]), ((10, 0, 0), funR fs i (fun j => sel (Nat.beq j i) (.rs (27, 8, 0) 14 0 bs.length) (Zbn (fs.getD j default).blocks))), ((27, 8, 0), blkR i bs 0 (fun q => inss (bs.getD q default).ins))]) (F := treeF fs i 0) [((27, 8, 0), some (27, 0, 0))] rfl (fun i hi => by simp only [tgts, List.mem_singleton] at hi; subst hi; exact .inl rfl) ?_ ?_ ?_ (fun i hi => by cases hi)) ?_
    · (repeat' first | exact TLg.nil | refine TLg.cons (GV.imm rfl) ?_ | refine TLg.cons (GV.bp rfl rfl) ?_ | refine TLg.cons (GV.rp rfl rfl ?_) ?_)
      all_goals first | rfl | exact hz
    · refine .old rfl rfl (GB.one (.cons (.rs rfl rfl rfl rfl) .nil) (fun e => by cases e)) (.old rfl rfl (GB.one (GVs.imm rfl) (fun _ => rfl)) (.old rfl rfl (GB.row (Nat.le_refl _) (fun j hj => ?_) (fun e => by cases e)) (.old rfl rfl (GB.row ?_ (fun j hj => ?_) (fun e => by cases e)) .nil)))
      · refine GVs.upd (fun e => ?_) (fun e => ?_)
        · rw [hz] at e; subst e
          refine .cons (.int (by rw [hz])) (.cons (.int (by rw [hz])) (.cons ?_ .nil))
          exact .cc (x' := .rs (27, 0, 0) 14 0 (fs.getD j default).blocks.length) rfl (show sel _ _ (sel _ _ _) = _ by rw [Zbc (Nat.le_refl _), Zcm]) (.rs rfl rfl rfl (by rw [hbs]))
        · rw [hz] at e
          refine .cons (.imm rfl) (.cons (.imm rfl) (.cons ?_ .nil))
          by_cases hji : j < i
          · exact .cc (show sel _ _ _ = _ from Za0 hji) (show sel _ _ (sel _ _ _) = _ from Za0 hji) (.rs (b := blkR j (fs.getD j default).blocks (fs.getD j default).blocks.length (fun _ => .any)) (Zbr hji) rfl rfl rfl)
          · exact .cc (show sel _ _ _ = _ from Zbc (by omega)) (show sel _ _ (sel _ _ _) = _ by rw [Zbc (by omega), Zeb e]) (.imm rfl)
      · rw [hbs]; exact Nat.le_refl _
      · subst hbs
        exact Zb8 (.cc rfl (show sel _ _ _ = _ from Zbc (Nat.zero_le _)) (.imm rfl))
    · intro j b e
      rcases Zch e with ⟨p, rfl, hp, rfl⟩ | ⟨p, q, rfl, hp, rfl⟩
      · exact HOk.mk rfl (b0 := blkR p (fs.getD p default).blocks (fs.getD p default).blocks.length (fun _ => .any)) (Zbr hp) (Zcq (fun q hq => .cc (Za0 hq) (Za0 hq) (.rs (b := insR ((fs.getD p default).blocks.getD q default).ins) (Zbe (.inl ⟨hp, hq⟩)) rfl rfl rfl)))
      · exact HOk.mk rfl (b0 := insR ((fs.getD p default).blocks.getD q default).ins) (Zbe hp) (Zc7 _)
    ((repeat' ((fail_if_success (show AWp _ _ _ (Code.region 8 _ _) _ _)); first | (refine Zac tok (by rfl) ?_; conv => whnf) | (refine @And.intro (Zaa _ _ _ _) _ ?_ ?_; rotate_left; (conv => whnf); rotate_right))); all_goals (try ((guard_target = Zaa _ _ _ _); refine Zae ?_; (all_goals (try simp only [Zaa, kzz, kz11, kz12, maxL, Zab] at *)); all_goals omega)))
    refine fAV (y := .rs (27, 8, 0) 14 0 bs.length) (show sel (Nat.blt i i) _ (sel (Nat.beq i i) _ _) = _ by rw [Zbc (Nat.le_refl _), Zcm]) ?_
    conv => whnf
    (repeat' ((fail_if_success (show AWp _ _ _ (Code.region 8 _ _) _ _)); refine Zaf ?_))
    have hbl := (hl1 i hlt).1
    have hbl2 := (hl1 i hlt).2
    rw [hbs] at hbl hbl2
    clear hl1
    refine Zas (fun k : Nat => mkF [(1, .bp (1, 0, 0) 0), (2, .bp (2, 0, 0) 0), (14, iv fs.length), (15, iv i), (4, .rp (10, 0, 0) 3 i 0), (34, iv bs.length), (35, iv k)] [((1, 0, 0), .row false 1 1 (fun _ => [.rs (10, 0, 0) 3 0 fs.length])), ((2, 0, 0), Zan [.nsl]), ((10, 0, 0), funR fs i (fun j => sel (Nat.beq j i) (.rs (27, 8, 0) 14 0 bs.length) (Zbn (fs.getD j default).blocks))), ((27, 8, 0), blkR i bs k (fun q => inss (bs.getD q default).ins))] (treeF fs i k))
      (fun k => k ≤ bs.length) (fun k => bs.length - k) 0 (Nat.zero_le _) ?_ ?_
    · refine Weak.fam [] rfl (fun i hi => by cases hi) ?_ ?_ ?_ (fun i hi => by cases hi)
      · (repeat' first | exact TLg.nil | refine TLg.cons (GV.imm rfl) ?_ | refine TLg.cons (GV.bp rfl rfl) ?_)
        all_goals rfl
      · refine .old rfl rfl (GB.one (.cons (.rs rfl rfl rfl rfl) .nil) (fun e => by cases e)) (.old rfl rfl (GB.one (GVs.imm rfl) (fun _ => rfl)) (.old rfl rfl (GB_fun (fun j hj => keep_fun (fun h => Zbr h) rfl rfl rfl rfl)) (.old rfl rfl (Zcq (fun q hq => .cc (Zbc (Nat.zero_le _)) (Zbc (Nat.zero_le _)) (.imm rfl))) .nil)))
      · intro j b e
        rcases Zch e with ⟨p, rfl, hp, rfl⟩ | ⟨p, q, rfl, hp, rfl⟩
        · exact HOk.mk rfl (b0 := blkR p (fs.getD p default).blocks (fs.getD p default).blocks.length (fun _ => .any)) (Zbr hp) (Zcq (fun q hq => .cc (Za0 hq) (Za0 hq) (.rs (b := insR ((fs.getD p default).blocks.getD q default).ins) (Zbe (.inl ⟨hp, hq⟩)) rfl rfl rfl)))
        · exact HOk.mk rfl (b0 := insR ((fs.getD p default).blocks.getD q default).ins) (Zbe hp) (Zc7 _)
    intro k hk
    ((repeat' ((fail_if_success (show AWp _ _ _ (Code.region 11 _ _) _ _)); first | refine Zad ?_ | (refine Zac tok (by rfl) ?_; conv => whnf) | refine Zaf ?_ | (refine Zah ?_; conv => whnf) | (refine Zar ?_; conv => whnf) | refine Zag rfl (fun hb => ?_) (fun hb => ?_) | (refine @And.intro (Zaa _ _ _ _) _ ?_ ?_; rotate_left; (conv => whnf); rotate_right))); all_goals (try ((guard_target = Zaa _ _ _ _); refine Zae ?_; (all_goals (try simp only [Zaa, kzz, kz11, kz12, maxL, Zab] at *)); all_goals omega)))
    · have hkl : k < bs.length := by simp only [decide_eq_true_eq] at hb; omega
      clear hb
      have hzk : 0 + (k : Int).toNat = k := by simp
      have hbk := hbl2 k hkl
      refine fAV (y := .rs (27, 8, 0) 14 0 bs.length) (show sel (Nat.blt i i) _ (sel (Nat.beq i i) _ _) = _ by rw [Zbc (Nat.le_refl _), Zcm]) ?_
      conv => whnf
      ((repeat' ((fail_if_success (show AWp _ _ _ (Code.region 11 _ _) _ _)); first | refine Zad ?_ | (refine @And.intro (Zaa _ _ _ _) _ ?_ ?_; rotate_left; (conv => whnf); rotate_right))); all_goals (try ((guard_target = Zaa _ _ _ _); refine Zae ?_; (all_goals (try simp only [Zaa, kzz, kz11, kz12, maxL, Zab] at *)); all_goals omega)))
      refine Zaz (Weak.fam (tl := [(1, .bp (1, 0, 0) 0), (2, .bp (2, 0, 0) 0), (14, iv fs.length), (15, iv i), (4, .rp (10, 0, 0) 3 i 0), (34, iv bs.length), (35, iv k), (6, .rp (27, 8, 0) 14 k 0)]) (hl := [((1, 0, 0), .row false 1 1 (fun _ => [.rs (10, 0, 0) 3 0 fs.length])), ((2, 0, 0), Zan [.nsl]), ((10, 0, 0), funR fs i (fun j => sel (Nat.beq j i) (.rs (27, 8, 0) 14 0 bs.length) (Zbn (fs.getD j default).blocks))), ((27, 8, 0), blkR i bs k (fun q => inss (bs.getD q default).ins))]) (F := treeF fs i k) [] rfl (fun i hi => by cases hi) ?_ ?_ ?_ (fun i hi => by cases hi)) ?_
      · (repeat' first | exact TLg.nil | refine TLg.cons (GV.imm rfl) ?_ | refine TLg.cons (GV.bp rfl rfl) ?_ | refine TLg.cons (GV.rp rfl rfl ?_) ?_)
        all_goals first | rfl | exact hzk
      · refine .old rfl rfl (GB.one (.cons (.rs rfl rfl rfl rfl) .nil) (fun e => by cases e)) (.old rfl rfl (GB.one (GVs.imm rfl) (fun _ => rfl)) (.old rfl rfl (GB_fun (fun j hj => keep_fun (fun h => Zbr h) rfl rfl rfl rfl)) (.old rfl rfl (Zcq (fun q hq => ?_)) .nil)))
        by_cases hqk : q < k
        · exact .cc (Za0 hqk) (Za0 hqk) (.rs (b := insR ((fs.getD i default).blocks.getD q default).ins) (Zbe (.inr ⟨rfl, hqk⟩)) rfl rfl rfl)
        · exact .cc (Zbc (by omega)) (Zbc (by omega)) (.imm rfl)
      · intro j b e
        rcases Zch e with ⟨p, rfl, hp, rfl⟩ | ⟨p, q, rfl, hp, rfl⟩
        · exact HOk.mk rfl (b0 := blkR p (fs.getD p default).blocks (fs.getD p default).blocks.length (fun _ => .any)) (Zbr hp) (Zcq (fun q hq => .cc (Za0 hq) (Za0 hq) (.rs (b := insR ((fs.getD p default).blocks.getD q default).ins) (Zbe (.inl ⟨hp, hq⟩)) rfl rfl rfl)))
        · exact HOk.mk rfl (b0 := insR ((fs.getD p default).blocks.getD q default).ins) (Zbe hp) (Zc7 _)
      conv => whnf
      refine (Za3 tok mix (by rfl) ?_)
      conv => whnf
      refine @And.intro (Zaa _ _ _ _) _ ?_ ?_
      · ((guard_target = Zaa _ _ _ _); refine Zae ?_; (all_goals (try simp only [Zaa, kzz, kz11, kz12, maxL, Zab] at *)); all_goals omega)
      conv => whnf
      refine .inl ⟨_, _, _, uG (QC.fo (rd := []) (c_CloneU16s (bs.getD k default).pad.catch_) (Ress.imms rfl) (.inl rfl) rfl), ?_⟩
      conv => whnf
      refine @And.intro (Zaa _ _ _ _) _ ?_ ?_
      · ((guard_target = Zaa _ _ _ _); refine Zae ?_; (all_goals (try simp only [Zaa, kzz, kz11, kz12, maxL, Zab] at *)); all_goals omega)
      conv => whnf
      refine fAV (y := inss (bs.getD k default).ins) (show sel (Nat.blt k k) _ _ = _ from Zbc (Nat.le_refl _)) ?_
      conv => whnf
      refine .inl ⟨_, _, _, uG (QC.fo (rd := []) (c_CloneIns (bs.getD k default).ins) (Ress.imms rfl) (.inl rfl) rfl), ?_⟩
      conv => whnf
      refine @And.intro (Zaa _ _ _ _) _ ?_ ?_
      · ((guard_target = Zaa _ _ _ _); refine Zae ?_; (all_goals (try simp only [Zaa, kzz, kz11, kz12, maxL, Zab] at *)); all_goals omega)
      conv => whnf
      refine .inl ⟨_, _, _, uG (QC.fo (rd := []) (c_CloneInts (bs.getD k default).fin.args) (Ress.imms rfl) (.inl rfl) rfl), ?_⟩
      conv => whnf
      refine @And.intro (Zaa _ _ _ _) _ ?_ ?_
      · ((guard_target = Zaa _ _ _ _); refine Zae ?_; (all_goals (try simp only [Zaa, kzz, kz11, kz12, maxL, Zab] at *)); all_goals omega)
      conv => whnf
      refine @And.intro (Zaa _ _ _ _) _ ?_ ?_
      · ((guard_target = Zaa _ _ _ _); refine Zae ?_; (all_goals (try simp only [Zaa, kzz, kz11, kz12, maxL, Zab] at *)); all_goals omega)
      conv => whnf
      refine @And.intro (Zaa _ _ _ _) _ ?_ ?_
      · ((guard_target = Zaa _ _ _ _); refine Zae ?_; (all_goals (try simp only [Zaa, kzz, kz11, kz12, maxL, Zab] at *)); all_goals omega)
      conv => whnf
      refine Zaz (Weak.fam (tl := [(1, .bp (1, 0, 0) 0), (2, .bp (2, 0, 0) 0), (14, iv fs.length), (15, iv i), (4, .rp (10, 0, 0) 3 i 0), (34, iv bs.length), (35, iv k), (6, .rp (27, 8, 0) 14 k 0)]) (hl := [((1, 0, 0), .row false 1 1 (fun _ => [.rs (10, 0, 0) 3 0 fs.length])), ((2, 0, 0), Zan [.nsl]), ((10, 0, 0), funR fs i (fun j => sel (Nat.beq j i) (.rs (27, 8, 0) 14 0 bs.length) (Zbn (fs.getD j default).blocks))), ((27, 8, 0), blkR i bs k (fun q => sel (Nat.beq q k) (.rs (57, 0, 0) 7 0 (bs.getD k default).ins.length) (inss (bs.getD q default).ins))), ((57, 0, 0), insR (bs.getD k default).ins)]) (F := treeF fs i k) [] rfl (fun i hi => by cases hi) ?_ ?_ ?_ (fun i hi => by cases hi)) ?_
      · (repeat' first | exact TLg.nil | refine TLg.cons (GV.imm rfl) ?_ | refine TLg.cons (GV.bp rfl rfl) ?_)
      · refine .old rfl rfl (GB.one (.cons (.rs rfl rfl rfl rfl) .nil) (fun e => by cases e)) (.old rfl rfl (GB.one (GVs.imm rfl) (fun _ => rfl)) (.old rfl rfl (GB_fun (fun j hj => keep_fun (fun h => Zbr h) rfl rfl rfl rfl)) (.old rfl rfl (GB.row (Nat.le_refl _) (fun q hq => ?_) (fun e => by cases e)) (.old rfl rfl (Zc7 _) .nil))))
        by_cases hqk : q = k
        · subst hqk
          repeat rw [updR_self]
          refine .cons (.imm rfl) (.cons (.imm rfl) (.cons (.frz (hd_of rfl (tree_hd0 rfl)) rfl (Nat.le_of_eq (Nat.zero_add _)) rfl (fun x hx => GVs.eqI rfl (by rw [Nat.zero_add])) (fun _ _ => rfl)) (.cons (.imm rfl) (.cons (.imm rfl) (.cons (.cc (x' := .rs (57, 0, 0) 7 0 (bs.getD q default).ins.length) rfl (show sel (Nat.blt q q) _ (sel (Nat.beq q q) _ _) = _ by rw [Zbc (Nat.le_refl _), Zcm]) (.rs rfl rfl rfl rfl)) (.cons (.imm rfl) (.cons (.imm rfl) (.cons (.imm rfl) (.cons (.imm rfl) (.cons (.frz (hd_of rfl (tree_hd0 rfl)) rfl (Nat.le_of_eq (Nat.zero_add _)) rfl (fun x hx => GVs.eqI rfl (by rw [Nat.zero_add])) (fun _ _ => rfl)) (.cons (.imm rfl) (.cons (.imm rfl) (.cons (.imm rfl) .nil)))))))))))))
        · refine GVs.upd (fun e => absurd e hqk) (fun _ => GVs.upd (fun e => absurd e hqk) (fun _ => GVs.upd (fun e => absurd e hqk) (fun _ => Zb8 ?_)))
          by_cases hlt2 : q < k
          · exact .cc (Za0 hlt2) (Za0 hlt2) (.rs (b := insR ((fs.getD i default).blocks.getD q default).ins) (Zbe (.inr ⟨rfl, hlt2⟩)) rfl rfl rfl)
          · exact .cc (Zbc (by omega)) (show sel _ _ (sel (Nat.beq q k) _ _) = _ by rw [Zbc (by omega), Zeb hqk]) (.imm rfl)
      · intro j b e
        rcases Zch e with ⟨p, rfl, hp, rfl⟩ | ⟨p, q, rfl, hp, rfl⟩
        · exact HOk.mk rfl (b0 := blkR p (fs.getD p default).blocks (fs.getD p default).blocks.length (fun _ => .any)) (Zbr hp) (Zcq (fun q hq => .cc (Za0 hq) (Za0 hq) (.rs (b := insR ((fs.getD p default).blocks.getD q default).ins) (Zbe (.inl ⟨hp, hq⟩)) rfl rfl rfl)))
        · exact HOk.mk rfl (b0 := insR ((fs.getD p default).blocks.getD q default).ins) (Zbe hp) (Zc7 _)
      refine Zad ?_
      refine (Zac tok (by rfl) ?_)
      conv => whnf
      refine @And.intro (Zaa _ _ _ _) _ ?_ ?_
      · ((guard_target = Zaa _ _ _ _); refine Zae ?_; (all_goals (try simp only [Zaa, kzz, kz11, kz12, maxL, Zab] at *)); all_goals omega)
      conv => whnf
      refine fAV (y := .rs (57, 0, 0) 7 0 (bs.getD k default).ins.length) (show sel (Nat.blt k k) _ (sel (Nat.beq k k) _ _) = _ by rw [Zbc (Nat.le_refl _), Zcm]) ?_
      conv => whnf
      (repeat' refine Zaf ?_)
      refine Zas (fun j : Nat => mkF [(1, .bp (1, 0, 0) 0), (2, .bp (2, 0, 0) 0), (14, iv fs.length), (15, iv i), (4, .rp (10, 0, 0) 3 i 0), (34, iv bs.length), (35, iv k), (6, .rp (27, 8, 0) 14 k 0), (76, iv (bs.getD k default).ins.length), (77, iv j)] [((1, 0, 0), .row false 1 1 (fun _ => [.rs (10, 0, 0) 3 0 fs.length])), ((2, 0, 0), Zan [.nsl]), ((10, 0, 0), funR fs i (fun j => sel (Nat.beq j i) (.rs (27, 8, 0) 14 0 bs.length) (Zbn (fs.getD j default).blocks))), ((27, 8, 0), blkR i bs k (fun q => sel (Nat.beq q k) (.rs (57, 0, 0) 7 0 (bs.getD k default).ins.length) (inss (bs.getD q default).ins))), ((57, 0, 0), insR (bs.getD k default).ins)] (treeF fs i k)) (fun j => j ≤ (bs.getD k default).ins.length) (fun j => (bs.getD k default).ins.length - j) 0 (Nat.zero_le _) ?_ ?_
      · refine Weak.fam [] rfl (fun i hi => by cases hi) ?_ ?_ ?_ (fun i hi => by cases hi)
        · (repeat' first | exact TLg.nil | refine TLg.cons (GV.imm rfl) ?_ | refine TLg.cons (GV.bp rfl rfl) ?_)
        · exact .old rfl rfl (GB.one (.cons (.rs rfl rfl rfl rfl) .nil) (fun e => by cases e)) (.old rfl rfl (GB.one (GVs.imm rfl) (fun _ => rfl)) (.old rfl rfl (GB_fun (fun j hj => keep_fun (fun h => Zbr h) rfl rfl rfl rfl)) (.old rfl rfl (Zcq (fun q hq => keep_blk (fun h => Zbe (.inr ⟨rfl, h⟩)) rfl rfl rfl)) (.old rfl rfl (Zc7 _) .nil))))
        · intro j b e
          rcases Zch e with ⟨p, rfl, hp, rfl⟩ | ⟨p, q, rfl, hp, rfl⟩
          · exact HOk.mk rfl (b0 := blkR p (fs.getD p default).blocks (fs.getD p default).blocks.length (fun _ => .any)) (Zbr hp) (Zcq (fun q hq => .cc (Za0 hq) (Za0 hq) (.rs (b := insR ((fs.getD p default).blocks.getD q default).ins) (Zbe (.inl ⟨hp, hq⟩)) rfl rfl rfl)))
          · exact HOk.mk rfl (b0 := insR ((fs.getD p default).blocks.getD q default).ins) (Zbe hp) (Zc7 _)
      intro j hj
      (repeat' ((fail_if_success (show AWp _ _ _ (Code.region 15 _ _) _ _)); first | refine Zad ?_ | (refine Zac tok (by rfl) ?_; conv => whnf) | refine Zaf ?_ | (refine Zah ?_; conv => whnf) | (refine Zar ?_; conv => whnf) | refine Zag rfl (fun hb => ?_) (fun hb => ?_)))
      · have hjl : j < (bs.getD k default).ins.length := by simp only [decide_eq_true_eq] at hb; omega
        clear hb
        have hzj : 0 + (j : Int).toNat = j := by simp
        refine (Za3 tok mix (by rfl) ?_)
        conv => whnf
        refine @And.intro (Zaa _ _ _ _) _ ?_ ?_
        · ((guard_target = Zaa _ _ _ _); refine Zae ?_; (all_goals (try simp only [Zaa, kzz, kz11, kz12, maxL, Zab] at *)); all_goals omega)
        conv => whnf
        refine fAV (y := .rs (57, 0, 0) 7 0 (bs.getD k default).ins.length) (show sel (Nat.blt k k) _ (sel (Nat.beq k k) _ _) = _ by rw [Zbc (Nat.le_refl _), Zcm]) ?_
        conv => whnf
        refine @And.intro (Zaa _ _ _ _) _ ?_ ?_
        · ((guard_target = Zaa _ _ _ _); refine Zae ?_; (all_goals (try simp only [Zaa, kzz, kz11, kz12, maxL, Zab] at *)); all_goals omega)
        conv => whnf
        refine fAV (y := .rs (57, 0, 0) 7 0 (bs.getD k default).ins.length) (show sel (Nat.blt k k) _ (sel (Nat.beq k k) _ _) = _ by rw [Zbc (Nat.le_refl _), Zcm]) ?_
        conv => whnf
        refine @And.intro (Zaa _ _ _ _) _ ?_ ?_
        · ((guard_target = Zaa _ _ _ _); refine Zae ?_; (all_goals (try simp only [Zaa, kzz, kz11, kz12, maxL, Zab] at *)); all_goals omega)
        conv => whnf
        refine @And.intro (Zaa _ _ _ _) _ ?_ ?_
        · ((guard_target = Zaa _ _ _ _); refine Zae ?_; (all_goals (try simp only [Zaa, kzz, kz11, kz12, maxL, Zab] at *)); all_goals omega)
        conv => whnf
        refine .inl ⟨_, _, _, uG (QC.fo (rd := []) (c_CloneInts ((bs.getD k default).ins.getD (0 + (j : Int).toNat) default).args) (Ress.imms rfl) (.inl rfl) rfl), ?_⟩
        conv => whnf
        ((repeat' first | (refine Zac tok (by rfl) ?_; conv => whnf) | (refine @And.intro (Zaa _ _ _ _) _ ?_ ?_; rotate_left; (conv => whnf); rotate_right)); all_goals (try ((guard_target = Zaa _ _ _ _); refine Zae ?_; (all_goals (try simp only [Zaa, kzz, kz11, kz12, maxL, Zab] at *)); all_goals omega)))
        refine ⟨j + 1, by omega, by omega, ?_⟩
        refine Weak.fam [] rfl (fun i hi => by cases hi) ?_ ?_ ?_ (fun i hi => by cases hi)
        · (repeat' first | exact TLg.nil | refine TLg.cons (GV.imm rfl) ?_ | refine TLg.cons (GV.bp rfl rfl) ?_ | refine TLg.cons (GV.int ?_) ?_)
          all_goals first | rfl | (simp (disch := omega) only [Zal]; omega) | omega
        · refine .old rfl rfl (GB.one (.cons (.rs rfl rfl rfl rfl) .nil) (fun e => by cases e)) (.old rfl rfl (GB.one (GVs.imm rfl) (fun _ => rfl)) (.old rfl rfl (GB_fun (fun j hj => keep_fun (fun h => Zbr h) rfl rfl rfl rfl)) (.old rfl rfl (Zcq (fun q hq => keep_blk (fun h => Zbe (.inr ⟨rfl, h⟩)) rfl rfl rfl)) (.old rfl rfl (GB.row (Nat.le_refl _) (fun q hq => GVs.upd (fun e => ?_) (fun _ => GVs.imm rfl)) (fun _ _ _ => rfl)) .nil))))
          rw [hzj] at e; subst e
          rw [hzj]
          exact .cons (.imm rfl) (.cons (.imm rfl) (.cons (.imm rfl) (.cons (.imm rfl) (.cons (.imm rfl) (.cons (.imm rfl) (.cons (.frz (hd_of rfl (tree_hd0 rfl)) rfl (Nat.le_of_eq (Nat.zero_add _)) rfl (fun x hx => GVs.eqI rfl (by rw [Nat.zero_add])) (fun _ _ => rfl)) .nil))))))
        · intro j b e
          rcases Zch e with ⟨p, rfl, hp, rfl⟩ | ⟨p, q, rfl, hp, rfl⟩
          · exact HOk.mk rfl (b0 := blkR p (fs.getD p default).blocks (fs.getD p default).blocks.length (fun _ => .any)) (Zbr hp) (Zcq (fun q hq => .cc (Za0 hq) (Za0 hq) (.rs (b := insR ((fs.getD p default).blocks.getD q default).ins) (Zbe (.inl ⟨hp, hq⟩)) rfl rfl rfl)))
          · exact HOk.mk rfl (b0 := insR ((fs.getD p default).blocks.getD q default).ins) (Zbe hp) (Zc7 _)
      · have hjl : j = (bs.getD k default).ins.length := by simp only [decide_eq_false_iff_not] at hb; omega
        clear hb
        skip
        refine ⟨k + 1, hkl, by omega, ?_⟩
        refine Weak.fam [((1001, i, k), some (57, 0, 0))] rfl (fun i hi => by simp only [tgts, List.mem_singleton] at hi; subst hi; exact .inl rfl) ?_ ?_ ?_ (fun i hi => by cases hi)
        · (repeat' first | exact TLg.nil | refine TLg.cons (GV.imm rfl) ?_ | refine TLg.cons (GV.bp rfl rfl) ?_ | refine TLg.cons (GV.int ?_) ?_)
          all_goals first | rfl | (simp (disch := omega) only [Zal]; omega) | omega
        · refine .old rfl rfl (GB.one (.cons (.rs rfl rfl rfl rfl) .nil) (fun e => by cases e)) (.old rfl rfl (GB.one (GVs.imm rfl) (fun _ => rfl)) (.old rfl rfl (GB_fun (fun j hj => keep_fun (fun h => Zbr h) rfl rfl rfl rfl)) (.old rfl rfl (Zcq (fun q hq => ?_)) .nil)))
          by_cases h1 : q < k
          · exact .cc (Za0 h1) (Za0 (by omega)) (.rs (b := insR ((fs.getD i default).blocks.getD q default).ins) (Zbe (.inr ⟨rfl, by omega⟩)) (Zb2 (fun e => by cases e; omega)) rfl rfl)
          · by_cases h2 : q = k
            · subst h2
              exact .cc (show sel _ _ (sel (Nat.beq q q) _ _) = _ by rw [Zbc (Nat.le_refl _), Zcm]) (Za0 (by omega)) (.rs (b := insR ((fs.getD i default).blocks.getD q default).ins) (Zbe (.inr ⟨rfl, by omega⟩)) Zeu rfl rfl)
            · exact .cc (show sel _ _ (sel (Nat.beq q k) _ _) = _ by rw [Zbc (by omega), Zeb h2]) (Zbc (by omega)) (.imm rfl)
        · intro j b e
          rcases Zch e with ⟨p, rfl, hp, rfl⟩ | ⟨p, q, rfl, hp, rfl⟩
          · exact HOk.mk rfl (b0 := blkR p (fs.getD p default).blocks (fs.getD p default).blocks.length (fun _ => .any)) (Zbr hp) (Zcq (fun q hq => .cc (Za0 hq) (Za0 hq) (.rs (b := insR ((fs.getD p default).blocks.getD q default).ins) (Zbe (.inl ⟨hp, hq⟩)) (Zb2 (fun e => by cases e; omega)) rfl rfl)))
          · by_cases h2 : p = i ∧ q = k
            · obtain ⟨rfl, rfl⟩ := h2
              exact HOk.mk Zeu (b0 := insR (bs.getD q default).ins) rfl (by rw [← hbs]; exact Zc7 _)
            · exact HOk.mk (Zb2 (fun e => h2 (by cases e; exact ⟨rfl, rfl⟩))) (b0 := insR ((fs.getD p default).blocks.getD q default).ins) (Zbe (by omega)) (Zc7 _)
    · have hkl : k = bs.length := by simp only [decide_eq_false_iff_not] at hb; omega
      clear hb
      skip
      refine ⟨i + 1, hlt, by omega, ?_⟩
      subst hkl
      refine Weak.fam [((1000, i, 0), some (27, 8, 0))] rfl (fun i hi => by simp only [tgts, List.mem_singleton] at hi; subst hi; exact .inl rfl) ?_ ?_ ?_ (fun i hi => by cases hi)
      · (repeat' first | exact TLg.nil | refine TLg.cons (GV.imm rfl) ?_ | refine TLg.cons (GV.bp rfl rfl) ?_ | refine TLg.cons (GV.int ?_) ?_)
        all_goals first | rfl | (simp (disch := omega) only [Zal]; omega) | omega
      · refine .old rfl rfl (GB.one (.cons (.rs rfl rfl rfl rfl) .nil) (fun e => by cases e)) (.old rfl rfl (GB.one (GVs.imm rfl) (fun _ => rfl)) (.old rfl rfl (GB_fun (fun j hj => ?_)) .nil))
        by_cases h1 : j < i
        · exact .cc (Za0 h1) (Za0 (by omega)) (.rs (b := blkR j (fs.getD j default).blocks (fs.getD j default).blocks.length (fun _ => .any)) (Zbr (by omega)) (Zb2 (fun e => by cases e; omega)) rfl rfl)
        · by_cases h2 : j = i
          · subst h2
            exact .cc (show sel _ _ (sel (Nat.beq j j) _ _) = _ by rw [Zbc (Nat.le_refl _), Zcm]) (Za0 (by omega)) (.rs (b := blkR j (fs.getD j default).blocks (fs.getD j default).blocks.length (fun _ => .any)) (Zbr (by omega)) Zeu rfl (by rw [hbs]))
          · exact .cc (show sel _ _ (sel (Nat.beq j i) _ _) = _ by rw [Zbc (by omega), Zeb h2]) (Zbc (by omega)) (.imm rfl)
      · intro j b e
        rcases Zch e with ⟨p, rfl, hp, rfl⟩ | ⟨p, q, rfl, hp, rfl⟩
        · by_cases h2 : p = i
          · subst h2
            refine HOk.mk Zeu (b0 := blkR p bs bs.length (fun q => inss (bs.getD q default).ins)) rfl ?_
            rw [hbs]
            exact Zcq (fun q hq => .cc (Za0 hq) (Za0 hq) (.rs (b := insR ((fs.getD p default).blocks.getD q default).ins) (Zbe (.inl ⟨hp, by rw [hbs]; exact hq⟩)) rfl rfl rfl))
          · exact HOk.mk (Zb2 (fun e => h2 (by cases e; rfl))) (b0 := blkR p (fs.getD p default).blocks (fs.getD p default).blocks.length (fun _ => .any)) (Zbr (by omega)) (Zcq (fun q hq => .cc (Za0 hq) (Za0 hq) (.rs (b := insR ((fs.getD p default).blocks.getD q default).ins) (Zbe (.inl ⟨hp, hq⟩)) rfl rfl rfl)))
        · refine HOk.mk rfl (b0 := insR ((fs.getD p default).blocks.getD q default).ins) (Zbe ?_) (Zc7 _)
          by_cases h2 : p = i
          · subst h2; rw [hbs] at hp; omega
          · omega
  · have hil : i = fs.length := by simp only [decide_eq_false_iff_not] at hb; omega
    clear hb
    subst hil
    refine ⟨_, srcL [((900, 0, 0), some (10, 0, 0))], rfl, srcL_inj rfl (fun i hi => by simp only [tgts, List.mem_singleton] at hi; subst hi; exact .inl rfl), ?_, ?_⟩
    · intro j b e
      rcases Zfr e with e | ⟨_, e⟩
      · simp only [Za6] at e
        cases e2 : idEq (900, 0, 0) j with
        | false => rw [e2] at e; cases e
        | true =>
          have := Za5.1 e2; subst this
          rw [e2] at e; cases e
          exact HOk.mk rfl (b0 := funR fs fs.length (fun j => Zbn (fs.getD j default).blocks)) rfl (GB_fun (fun j hj => .cc (Za0 hj) (Za0 hj) (.rs (b := blkR j (fs.getD j default).blocks (fs.getD j default).blocks.length (fun _ => .any)) (Zbr hj) rfl rfl rfl)))
      · rcases Zch e with ⟨p, rfl, hp, rfl⟩ | ⟨p, q, rfl, hp, rfl⟩
        · exact HOk.mk rfl (b0 := blkR p (fs.getD p default).blocks (fs.getD p default).blocks.length (fun _ => .any)) (Zbr hp) (Zcq (fun q hq => .cc (Za0 hq) (Za0 hq) (.rs (b := insR ((fs.getD p default).blocks.getD q default).ins) (Zbe (.inl ⟨hp, hq⟩)) rfl rfl rfl)))
        · exact HOk.mk rfl (b0 := insR ((fs.getD p default).blocks.getD q default).ins) (Zbe hp) (Zc7 _)
    · exact .agg (.cons (.rs rfl rfl rfl rfl) .nil)
end Go.Proofs.Ytmanpbgaihdalaa
namespace Go.Proofs.Ytmanpbgaihdalaa
open Go Dv
set_option maxRecDepth 10000
set_option linter.unusedSimpArgs false
def blkR1 (l : List Zbk) : Zap := .row true 14 l.length (fun q => Zam (l.getD q default))
def funR1 (l : List Func) (c : Nat → AV) : Zap := .row false 3 l.length (fun j => [iv (l.getD j default).params, iv (l.getD j default).regs, c j])
def blkF1 (l : List Func) (p : Nat → Bool) : Zaq := famC 1000 (fun j z => bif Nat.beq z 0 && (Nat.blt j l.length && p j) then some (blkR1 (l.getD j default).blocks) else none)
def mem1 (l : List Func) (j : Nat) : AV := .rs (1000, j, 0) 14 0 (l.getD j default).blocks.length
def modH1 (l : List Func) : Zaq := orH (Za6 [((900, 0, 0), funR1 l (mem1 l))]) (blkF1 l (fun _ => true))
theorem blkF1_some {l : List Func} {p : Nat → Bool} {j : Dv.Id} {b : Zap} (h : blkF1 l p j = some b) : ∃ i, j = (1000, i, 0) ∧ i < l.length ∧ p i = true ∧ b = blkR1 (l.getD i default).blocks := by
  obtain ⟨a, z, rfl, h3⟩ := Zfd h
  cases e : (Nat.beq z 0 && (Nat.blt a l.length && p a)) with
  | false => rw [e] at h3; cases h3
  | true =>
    rw [e] at h3
    rw [Bool.and_eq_true, Bool.and_eq_true, Nat.blt_eq] at e
    have := Nat.eq_of_beq_eq_true e.1
    subst this
    exact ⟨a, rfl, e.2.1, e.2.2, (Option.some.inj h3).symm⟩
theorem blkF1_at {l : List Func} {p : Nat → Bool} {i : Nat} (h : i < l.length) (hp : p i = true) : blkF1 l p (1000, i, 0) = some (blkR1 (l.getD i default).blocks) := by
  show (bif (Nat.beq 0 0 && (Nat.blt i l.length && p i)) then _ else none) = _
  have : (Nat.beq 0 0 && (Nat.blt i l.length && p i)) = true := by
    rw [Bool.and_eq_true, Bool.and_eq_true, Nat.blt_eq]; exact ⟨rfl, h, hp⟩
  rw [this]; rfl
theorem copyH_sub (fs : List Func) (j : Dv.Id) (b : Zap) (e : modH1 fs j = some b) : (j = (900, 0, 0) ∧ b = funR1 fs (mem1 fs)) ∨ ∃ i, j = (1000, i, 0) ∧ i < fs.length ∧ b = blkR1 (fs.getD i default).blocks := by
  rcases Zfr e with e | ⟨_, e⟩
  · simp only [Za6] at e
    cases e2 : idEq (900, 0, 0) j with
    | false => rw [e2] at e; cases e
    | true => have := Za5.1 e2; subst this; rw [e2] at e; cases e; exact .inl ⟨rfl, rfl⟩
  · obtain ⟨i, rfl, h1, _, h2⟩ := blkF1_some e
    exact .inr ⟨i, rfl, h1, h2⟩
theorem modH1_at {l : List Func} {i : Nat} (h : i < l.length) : modH1 l (1000, i, 0) = some (blkR1 (l.getD i default).blocks) := (show blkF1 l (fun _ => true) (1000, i, 0) = _ from blkF1_at h rfl)
theorem c_Copy1 (fs : List Func) : HF Try.prog 26 [.agg (Zax ⟨fs⟩)] (.agg [.rs (900, 0, 0) 3 0 fs.length]) (modH1 fs) := by
  refine (c_Copy fs).weak (fun j => some j) (fun j j' i _ _ h1 h2 => some_inj j j' i h1 h2) (fun j b e => ?_) (.agg (.cons (.rs (b := funR1 fs (mem1 fs)) rfl rfl rfl rfl) .nil))
  rcases copyH_sub fs j b e with ⟨rfl, rfl⟩ | ⟨i, rfl, hi, rfl⟩
  · refine HOk.mk rfl (b0 := funR fs fs.length (fun _ => .any)) rfl (GB.row (Nat.le_refl _) (fun j hj => .cons (.imm rfl) (.cons (.imm rfl) (.cons ?_ .nil))) (fun e => by cases e))
    exact .cc (Za0 hj) rfl (.rs (modH1_at hj) rfl rfl rfl)
  · refine HOk.mk rfl (b0 := blkR i (fs.getD i default).blocks (fs.getD i default).blocks.length (fun _ => .any)) (show treeF fs fs.length 0 (1000, i, 0) = _ from Zbr hi) (GB.row (Nat.le_refl _) (fun q hq => ?_) (fun _ _ _ => rfl))
    refine .cons (.imm rfl) (.cons (.imm rfl) (.cons (.imm rfl) (.cons (.imm rfl) (.cons (.imm rfl) (.cons ?_ (GVs.imm rfl))))))
    refine .cc (Za0 hq) rfl (.frz (k := ((fs.getD i default).blocks.getD q default).ins.length) (f := fun j => Zbd (((fs.getD i default).blocks.getD q default).ins.getD j default)) (imm := true) (fun j hj e => ?_) (show treeF fs fs.length 0 (1001, i, q) = _ from Zbe (.inl ⟨hi, hq⟩)) (Nat.le_of_eq (Nat.zero_add _)) rfl (fun x hx => GVs.eqI rfl (by rw [Nat.zero_add])) (fun _ _ => rfl))
    cases e
    cases hj
theorem rel_mod1 (l : List Func) : Rel (modH1 l) (.agg [.rs (900, 0, 0) 3 0 l.length]) (.agg (Zax ⟨l⟩)) := by
  refine Rel.agg (Rels.cons (Rel.rs (imm := false) (k := l.length) (f := fun j => [iv (l.getD j default).params, iv (l.getD j default).regs, mem1 l j]) rfl (Nat.le_of_eq (Nat.zero_add _)) (fun i hi => ?_)) Rels.nil)
  rw [Nat.zero_add]
  refine Rels.cons (Rel.imm rfl) (Rels.cons (Rel.imm rfl) (Rels.cons (Rel.rs (imm := true) (k := (l.getD i default).blocks.length) (f := fun q => Zam ((l.getD i default).blocks.getD q default)) (modH1_at hi) (Nat.le_of_eq (Nat.zero_add _)) (fun q hq => ?_)) Rels.nil))
  rw [Nat.zero_add]
  exact Rels.imm rfl
theorem c_CopyF (m : Za1) : FC Try.prog 26 [.agg (Zax m)] (.agg (Zax m)) := (c_Copy1 m.funcs).fc (rel_mod1 m.funcs)
end Go.Proofs.Ytmanpbgaihdalaa
namespace Go.Proofs.Ytmanpbgaihdalaa
open Go Dv
set_option maxRecDepth 10000
set_option linter.unusedSimpArgs false
def twoO (op : Int) : Bool := bif decide (2 < op) then decide (op ≤ 8) else false
def turnsO (op : Int) : Bool := decide (op = 3 ∨ op = 5 ∨ op = 7)
end Go.Proofs.Ytmanpbgaihdalaa
namespace Go.Proofs.Ytmanpbgaihdalaa
open Go Dv
set_option maxRecDepth 10000
set_option linter.unusedSimpArgs false
structure Deed where
  op : Int
  a : Int
  b : Int
deriving DecidableEq, Inhabited
def Deed.l (d : Deed) : List Int := [d.op, d.a, d.b]
def ofD (x : Ins) : Deed := if turnsO x.op = true ∧ x.b < x.a then ⟨x.op, x.b, x.a⟩ else ⟨x.op, x.a, x.b⟩
abbrev κS : MK := ⟨true, 3, .i64, .i64⟩
def hit (p : Int) (q : List Int × Int) : Bool := decide (q.1.getD 1 0 = p) || decide (q.1.getD 2 0 = p) || decide (q.2 = p)
def Zde (m : List (List Int × Int)) (p : Int) : List (List Int × Int) := m.filter fun q => !hit p q
structure FInv (m : List (List Int × Int)) (p : Int) (clock : Nat) (es : Array MapEntry) (seen : Array Nat) (m' : List (List Int × Int)) : Prop where
  ok : MOk κS m' es clock
  same : Zde m' p = Zde m p
  past : ∀ e ∈ es.toList, seen.contains e.born = true → ∀ k v, (k, v) ∈ m' → e.key = keyV κS k → hit p (k, v) = false
theorem FInv.done {m : List (List Int × Int)} {p : Int} {clock : Nat} {es : Array MapEntry} {seen : Array Nat} {m' : List (List Int × Int)} (h : FInv m p clock es seen m') (h0 : (leftOf es seen).size = 0) : MOk κS (Zde m p) es clock := by
  rw [← h.same]
  have : Zde m' p = m' := List.filter_eq_self.2 (fun q hq => by
    have h1 : (keyV κS q.1, Value.int .i64 q.2) ∈ m'.map (fun p => (keyV κS p.1, Value.int κS.vk p.2)) := List.mem_map.2 ⟨q, hq, rfl⟩
    rw [← h.ok.kv] at h1
    obtain ⟨e, he, h2⟩ := List.mem_map.1 h1
    have h3 := Prod.mk.inj h2
    rw [h.past e he (all_seen es seen h0 e he) q.1 q.2 hq h3.1]; rfl)
  rw [this]; exact h.ok
abbrev Mp := List (List Int × Int)
def sameHit (m : Mp) (x : Ins) : Bool := bif twoO x.op then (Zc2 m (ofD x).l).isSome else false
def sameY (m : Mp) (x : Ins) : Ins := if sameHit m x = true then ⟨2, x.dst, (Zc2 m (ofD x).l).getD 0, 0, 0, 0, []⟩ else x
def sameOk (m : Mp) (x : Ins) : Bool := twoO x.op && !(Zc2 m (ofD x).l).isSome
def sameM (m : Mp) (x : Ins) : Mp := if (sameY m x).op = 10 ∨ (sameY m x).op = 12 then m else
  if sameOk m x = true ∧ (sameY m x).dst ≠ (ofD x).a ∧ (sameY m x).dst ≠ (ofD x).b then mput (Zde m (sameY m x).dst) (ofD x).l (sameY m x).dst else Zde m (sameY m x).dst
def sameIns : Mp → List Ins → List Ins × Mp
  | m, [] => ([], m)
  | m, x :: r => (sameY m x :: (sameIns (sameM m x) r).1, (sameIns (sameM m x) r).2)
def sameAt (l : List Ins) (i : Nat) : List Ins := (sameIns [] (l.take i)).1 ++ l.drop i
end Go.Proofs.Ytmanpbgaihdalaa
namespace Go.Proofs.Ytmanpbgaihdalaa
open Go Dv
set_option maxRecDepth 10000
set_option linter.unusedSimpArgs false
section
variable (B : Zbk → Zbk)
def mapB (l : List Zbk) (k : Nat) : List Zbk := (List.range l.length).map fun q => if q < k then B (l.getD q default) else l.getD q default
end
theorem range_getD {α : Type} (d : α) (f : Nat → α) {n i : Nat} (h : i < n) : ((List.range n).map f).getD i d = f i := by
  simp [List.getD_eq_getElem?_getD, h]
theorem mapB_len {B : Zbk → Zbk} (l : List Zbk) (k : Nat) : (mapB B l k).length = l.length := by simp [mapB]
theorem mapB_at {B : Zbk → Zbk} {l : List Zbk} {k q : Nat} (h : q < l.length) : (mapB B l k).getD q default = if q < k then B (l.getD q default) else l.getD q default := range_getD _ _ h
theorem mapB_all {B : Zbk → Zbk} (l : List Zbk) : mapB B l l.length = l.map B := by
  refine Zbo default (by simp [mapB]) (fun i hi => ?_)
  rw [mapB_len] at hi
  rw [mapB_at hi, if_pos hi, Zbh (d := default) (l := l.map B) (by simpa using hi), Zbh _ hi]; simp
theorem GB_fun1 {src : Dv.Id → Option Dv.Id} {h h' : Zaq} {l : List Func} {c c' : Nat → AV} (hc : ∀ q, q < l.length → GV src h h' (c q) (c' q)) : GB src h h' (funR1 l c) (funR1 l c') :=
  GB.row (Nat.le_refl _) (fun q hq => .cons (.imm rfl) (.cons (.imm rfl) (.cons (hc q hq) .nil))) (fun e => by cases e)
def errM (m : Za1) : Int := if Zc0 m = true then 0 else 1
end Go.Proofs.Ytmanpbgaihdalaa
namespace Go.Proofs.Ytmanpbgaihdalaa
open Go Dv
set_option maxRecDepth 10000
set_option linter.unusedSimpArgs false
theorem c_rInts (a b : List Int) : FC Try.prog 83 [ints a, ints b] (.bool (decide (a = b))) := by
  refine Zay tok Try.func83 rfl (by decide +kernel) (Nat.le_of_ble_eq_true rfl) ?_
  refine Zat 0 (fun hl => ?_)
  have hl0 : a.length ≤ maxL := hl.1
  (repeat' first | refine Zad ?_ | (refine Zac tok (by rfl) ?_; conv => whnf) | refine Zaf ?_ | (refine Zah ?_; conv => whnf) | (refine Zaj ?_; conv => whnf) | refine Zag rfl (fun hb => ?_) (fun hb => ?_))
  · refine ⟨_, rfl, Rel.bool ?_⟩
    symm; rw [decide_eq_false_iff_not]
    intro e; subst e; simp at hb
  have hlen : a.length = b.length := by simp at hb; omega
  clear hb
  refine Zas (fun i : Nat => mkS [(0, ints a), (1, ints b), (5, iv i)] [])
    (fun i => i ≤ a.length ∧ ∀ j, j < i → a.getD j 0 = b.getD j 0) (fun i => a.length - i) 0 ⟨Nat.zero_le _, by simp⟩ ?_ ?_
  · refine Weak.list [] rfl (by rfl) ?_ .nil
    ((repeat' first | exact TLes.nil | refine TLes.cons (TLe.eq rfl) ?_); skip)
  rintro i ⟨hi2, hc⟩
  ((repeat' first | refine Zad ?_ | (refine Zac tok (by rfl) ?_; conv => whnf) | (refine Za3 tok mix (by rfl) ?_; conv => whnf) | refine Zaf ?_ | (refine Zah ?_; conv => whnf) | (refine Zar ?_; conv => whnf) | (refine Zaj ?_; conv => whnf) | refine Zag rfl (fun hb => ?_) (fun hb => ?_) | (refine @And.intro (Zaa _ _ _ _) _ ?_ ?_; rotate_left; (conv => whnf); rotate_right)); all_goals (try ((guard_target = Zaa _ _ _ _); refine Zae ?_; (all_goals (try simp only [Zaa, kzz, kz11, kz12, maxL, Zab] at *)); all_goals omega)))
  · have hlt : i < a.length := by rename_i h; simp only [Zaa, kzz, kz11, kz12, maxL, Zab] at *; omega
    refine ⟨_, rfl, Rel.bool ?_⟩
    symm; rw [decide_eq_false_iff_not]
    intro e; subst e; simp at hb
  · have hlt : i < a.length := by rename_i h; simp only [Zaa, kzz, kz11, kz12, maxL, Zab] at *; omega
    refine ⟨i + 1, ⟨hlt, fun j hj => ?_⟩, by omega, ?_⟩
    · by_cases e : j = i
      · subst e; simpa using hb
      · exact hc j (by omega)
    refine Weak.list [] rfl (by rfl) ?_ .nil
    ((repeat' first | exact TLes.nil | refine TLes.cons (TLe.eq rfl) ?_ | refine TLes.cons (TLe.int ?_) ?_); (all_goals first | ((try (simp only [Zaa, kzz, kz11, kz12, maxL, Zab] at *)); exact Zal (by omega) (by omega)) | skip))
  · refine ⟨_, rfl, Rel.bool ?_⟩
    symm; rw [decide_eq_true_eq]
    exact Zbo 0 hlen (fun j hj => hc j (by simp only [Zaa, kzz, kz11, kz12, maxL, Zab] at *; omega))
theorem c_rSameIns (x y : Ins) : FC Try.prog 38 [.agg (Zbd x), .agg (Zbd y)] (.bool (decide (x = y))) := by
  refine Zay tok Try.func38 rfl (by decide +kernel) (Nat.le_of_ble_eq_true rfl) ?_
  (repeat' first | refine Zad ?_ | (refine Zac tok (by rfl) ?_; conv => whnf))
  refine .inl ⟨_, _, _, uG (QC.fc (c_rInts x.args y.args) rfl), ?_⟩
  conv => whnf
  (repeat' (refine Zaj ?_; conv => whnf))
  refine ⟨_, rfl, Rel.bool ?_⟩
  obtain ⟨a1, a2, a3, a4, a5, a6, a7⟩ := x
  obtain ⟨b1, b2, b3, b4, b5, b6, b7⟩ := y
  rw [Bool.eq_iff_iff]
  simp [and_assoc]
theorem c_rSameEnd (x y : End) : FC Try.prog 37 [.agg (Zcg x), .agg (Zcg y)] (.bool (decide (x = y))) := by
  refine Zay tok Try.func37 rfl (by decide +kernel) (Nat.le_of_ble_eq_true rfl) ?_
  (repeat' first | refine Zad ?_ | (refine Zac tok (by rfl) ?_; conv => whnf))
  refine .inl ⟨_, _, _, uG (QC.fc (c_rInts x.args y.args) rfl), ?_⟩
  conv => whnf
  (repeat' (refine Zaj ?_; conv => whnf))
  refine ⟨_, rfl, Rel.bool ?_⟩
  obtain ⟨a1, a2, a3, a4, a5, a6, a7, a8⟩ := x
  obtain ⟨b1, b2, b3, b4, b5, b6, b7, b8⟩ := y
  rw [Bool.eq_iff_iff]
  simp [and_assoc]
theorem c_rSamePad (x y : Pad) : FC Try.prog 65 [.agg (Zd6 x), .agg (Zd6 y)] (.bool (decide (x = y))) := by
  refine Zay tok Try.func65 rfl (by decide +kernel) (Nat.le_of_ble_eq_true rfl) ?_
  refine Zat 0 (fun hl => ?_)
  have hl0 : x.catch_.length ≤ maxL := hl.2.1.1
  obtain ⟨a1, a2, a3, a4⟩ := x
  obtain ⟨b1, b2, b3, b4⟩ := y
  simp only at hl0
  (repeat' first | refine Zad ?_ | (refine Zac tok (by rfl) ?_; conv => whnf) | refine Zaf ?_ | (refine Zah ?_; conv => whnf) | (refine Zaj ?_; conv => whnf) | refine Zag rfl (fun hb => ?_) (fun hb => ?_))
  · refine ⟨_, rfl, Rel.bool ?_⟩
    symm; rw [decide_eq_false_iff_not]
    intro e; cases e; simp at hb
  have hall : a1 = b1 ∧ a3 = b3 ∧ a4 = b4 ∧ a2.length = b2.length := by
    simp [and_assoc] at hb
    refine ⟨hb.1, hb.2.1, hb.2.2.1, ?_⟩
    have := hb.2.2.2; omega
  clear hb
  obtain ⟨rfl, rfl, rfl, hlen⟩ := hall
  refine Zas (fun i : Nat => mkS [(2, .bp (2, 0, 0) 0), (3, .bp (3, 0, 0) 0), (5, iv i)] [((2, 0, 0), Zan (Zd6 ⟨a1, a2, a3, a4⟩)), ((3, 0, 0), Zan (Zd6 ⟨a1, b2, a3, a4⟩))])
    (fun i => i ≤ a2.length ∧ ∀ j, j < i → a2.getD j 0 = b2.getD j 0) (fun i => a2.length - i) 0 ⟨Nat.zero_le _, by simp⟩ ?_ ?_
  · refine Weak.list [((2, 0, 0), .old (2, 0, 0), Zan (Zd6 ⟨a1, a2, a3, a4⟩)), ((3, 0, 0), .old (3, 0, 0), Zan (Zd6 ⟨a1, b2, a3, a4⟩))] rfl (by rfl) ?_ (.old rfl (BLe.refl _) (.old rfl (BLe.refl _) .nil))
    ((repeat' first | exact TLes.nil | refine TLes.cons (TLe.eq rfl) ?_); skip)
  rintro i ⟨hi2, hc⟩
  ((repeat' first | refine Zad ?_ | (refine Zac tok (by rfl) ?_; conv => whnf) | (refine Za3 tok mix (by rfl) ?_; conv => whnf) | refine Zaf ?_ | (refine Zah ?_; conv => whnf) | (refine Zar ?_; conv => whnf) | (refine Zaj ?_; conv => whnf) | refine Zag rfl (fun hb => ?_) (fun hb => ?_) | (refine @And.intro (Zaa _ _ _ _) _ ?_ ?_; rotate_left; (conv => whnf); rotate_right)); all_goals (try ((guard_target = Zaa _ _ _ _); refine Zae ?_; (all_goals (try simp only [Zaa, kzz, kz11, kz12, maxL, Zab] at *)); all_goals omega)))
  · have hlt : i < a2.length := by rename_i h; simp only [Zaa, kzz, kz11, kz12, maxL, Zab] at *; omega
    refine ⟨_, rfl, Rel.bool ?_⟩
    symm; rw [decide_eq_false_iff_not]
    intro e; cases e; simp at hb
  · have hlt : i < a2.length := by rename_i h; simp only [Zaa, kzz, kz11, kz12, maxL, Zab] at *; omega
    refine ⟨i + 1, ⟨hlt, fun j hj => ?_⟩, by omega, ?_⟩
    · by_cases e : j = i
      · subst e; simpa using hb
      · exact hc j (by omega)
    refine Weak.list [((2, 0, 0), .old (2, 0, 0), Zan (Zd6 ⟨a1, a2, a3, a4⟩)), ((3, 0, 0), .old (3, 0, 0), Zan (Zd6 ⟨a1, b2, a3, a4⟩))] rfl (by rfl) ?_ (.old rfl (BLe.refl _) (.old rfl (BLe.refl _) .nil))
    ((repeat' first | exact TLes.nil | refine TLes.cons (TLe.eq rfl) ?_ | refine TLes.cons (TLe.int ?_) ?_); (all_goals first | ((try (simp only [Zaa, kzz, kz11, kz12, maxL, Zab] at *)); exact Zal (by omega) (by omega)) | skip))
  · refine ⟨_, rfl, Rel.bool ?_⟩
    symm; rw [decide_eq_true_eq]
    rw [Zbo 0 hlen (fun j hj => hc j (by simp only [Zaa, kzz, kz11, kz12, maxL, Zab] at *; omega))]
theorem c_rSameFunc (x y : Func) : FC Try.prog 44 [.agg (Zai x), .agg (Zai y)] (.bool (decide (x = y))) := by
  refine Zay tok Try.func44 rfl (by decide +kernel) (Nat.le_of_ble_eq_true rfl) ?_
  refine Zat 0 (fun hl => ?_)
  have hl0 : x.blocks.length ≤ maxL := hl.2.2.1.1
  have hl1 : ∀ i, i < x.blocks.length → (x.blocks.getD i default).ins.length ≤ maxL := fun i hi => (hl.2.2.1.2 i hi).2.2.2.2.2.1.1
  have hmx : maxL = 4294967296 := rfl
  clear hl
  obtain ⟨a1, a2, a3⟩ := x
  obtain ⟨b1, b2, b3⟩ := y
  simp only at hl0 hl1
  (repeat' first | refine Zad ?_ | (refine Zac tok (by rfl) ?_; conv => whnf) | refine Zaf ?_ | (refine Zah ?_; conv => whnf) | (refine Zaj ?_; conv => whnf) | refine Zag rfl (fun hb => ?_) (fun hb => ?_))
  · refine ⟨_, rfl, Rel.bool ?_⟩
    symm; rw [decide_eq_false_iff_not]
    intro e; cases e; simp at hb
  have hall : a1 = b1 ∧ a2 = b2 ∧ a3.length = b3.length := by
    simp [and_assoc] at hb
    refine ⟨hb.1, hb.2.1, ?_⟩
    have := hb.2.2; omega
  clear hb
  obtain ⟨rfl, rfl, hlen⟩ := hall
  refine Zas (fun i : Nat => mkS [(2, .bp (2, 0, 0) 0), (3, .bp (3, 0, 0) 0), (5, iv i)] [((2, 0, 0), Zan (Zai ⟨a1, a2, a3⟩)), ((3, 0, 0), Zan (Zai ⟨a1, a2, b3⟩))])
    (fun i => i ≤ a3.length ∧ ∀ j, j < i → a3.getD j default = b3.getD j default) (fun i => a3.length - i) 0 ⟨Nat.zero_le _, by simp⟩ ?_ ?_
  · refine Weak.list [((2, 0, 0), .old (2, 0, 0), Zan (Zai ⟨a1, a2, a3⟩)), ((3, 0, 0), .old (3, 0, 0), Zan (Zai ⟨a1, a2, b3⟩))] rfl (by rfl) ?_ (.old rfl (BLe.refl _) (.old rfl (BLe.refl _) .nil))
    ((repeat' first | exact TLes.nil | refine TLes.cons (TLe.eq rfl) ?_); skip)
  rintro i ⟨hi2, hc⟩
  ((repeat' ((fail_if_success (show AWp _ _ _ (Code.region 7 _ _) _ _)); first | refine Zad ?_ | (refine Zac tok (by rfl) ?_; conv => whnf) | (refine Za3 tok mix (by rfl) ?_; conv => whnf) | refine Zaf ?_ | (refine Zah ?_; conv => whnf) | (refine Zar ?_; conv => whnf) | (refine Zaj ?_; conv => whnf) | refine Zag rfl (fun hb => ?_) (fun hb => ?_) | (refine @And.intro (Zaa _ _ _ _) _ ?_ ?_; rotate_left; (conv => whnf); rotate_right))); all_goals (try ((guard_target = Zaa _ _ _ _); refine Zae ?_; (all_goals (try simp only [Zaa, kzz, kz11, kz12, maxL, Zab] at *)); all_goals omega)))
  · have hlt : i < a3.length := by simp only [decide_eq_true_eq] at hb; omega
    clear hb
    have hil := hl1 i hlt
    have hii : (i : Int).toNat = i := Int.toNat_natCast i
    have hgen : ∃ p, a3.getD i default = p := ⟨_, rfl⟩
    obtain ⟨p, hp⟩ := hgen
    have hgen : ∃ q, b3.getD i default = q := ⟨_, rfl⟩
    obtain ⟨q, hq⟩ := hgen
    refine Zaz (Weak.list (tl := [(2, .bp (2, 0, 0) 0), (3, .bp (3, 0, 0) 0), (5, iv i), (6, .bp (6, 0, 0) 0), (7, .bp (7, 0, 0) 0)]) [((2, 0, 0), .old (2, 0, 0), Zan (Zai ⟨a1, a2, a3⟩)), ((3, 0, 0), .old (3, 0, 0), Zan (Zai ⟨a1, a2, b3⟩)), ((6, 0, 0), .old (6, 0, 0), .row true 14 1 (fun _ => Zam p)), ((7, 0, 0), .old (7, 0, 0), .row true 14 1 (fun _ => Zam q))] rfl (by rfl) ?_ (.old rfl (BLe.refl _) (.old rfl (BLe.refl _) (.old rfl (BLe.rowW (Nat.le_refl _) (ltS (Wks.of (by rw [← hp]; rfl)) lt0)) (.old rfl (BLe.rowW (Nat.le_refl _) (ltS (Wks.of (by rw [← hq]; rfl)) lt0)) .nil))))) ?_
    · (repeat' first | exact TLes.nil | refine TLes.cons (TLe.eq rfl) ?_)
    have hne : p ≠ q → (⟨a1, a2, a3⟩ : Func) ≠ ⟨a1, a2, b3⟩ := fun h e => by cases e; exact h (hp.symm.trans hq)
    rw [hp] at hil
    (repeat' (refine Zac tok (by rfl) ?_; conv => whnf))
    refine .inl ⟨_, _, _, uG (QC.fc (c_rSamePad p.pad q.pad) rfl), ?_⟩
    conv => whnf
    skip
    refine .inl ⟨_, _, _, uG (QC.fc (c_rSameEnd p.fin q.fin) rfl), ?_⟩
    conv => whnf
    (repeat' first | refine Zad ?_ | (refine Zac tok (by rfl) ?_; conv => whnf) | refine Zaf ?_ | (refine Zah ?_; conv => whnf) | (refine Zaj ?_; conv => whnf) | refine Zag rfl (fun hb => ?_) (fun hb => ?_))
    · refine ⟨_, rfl, Rel.bool ?_⟩
      symm; rw [decide_eq_false_iff_not]
      refine hne (fun e => ?_)
      subst e; simp at hb
    have hall : p.landing = q.landing ∧ p.pad = q.pad ∧ p.fin = q.fin ∧ p.ins.length = q.ins.length := by
      simp [and_assoc] at hb
      refine ⟨hb.1, hb.2.1, hb.2.2.1, ?_⟩
      have := hb.2.2.2; omega
    clear hb
    obtain ⟨e1, e2, e3, e4⟩ := hall
    refine Zas (fun k : Nat => mkS [(2, .bp (2, 0, 0) 0), (3, .bp (3, 0, 0) 0), (5, iv i), (6, .bp (6, 0, 0) 0), (7, .bp (7, 0, 0) 0), (8, iv k)] [((2, 0, 0), Zan (Zai ⟨a1, a2, a3⟩)), ((3, 0, 0), Zan (Zai ⟨a1, a2, b3⟩)), ((6, 0, 0), .row true 14 1 (fun _ => Zam p)), ((7, 0, 0), .row true 14 1 (fun _ => Zam q))])
      (fun k => k ≤ p.ins.length ∧ ∀ j, j < k → p.ins.getD j default = q.ins.getD j default) (fun k => p.ins.length - k) 0 ⟨Nat.zero_le _, by simp⟩ ?_ ?_
    · refine Weak.list [((2, 0, 0), .old (2, 0, 0), Zan (Zai ⟨a1, a2, a3⟩)), ((3, 0, 0), .old (3, 0, 0), Zan (Zai ⟨a1, a2, b3⟩)), ((6, 0, 0), .old (6, 0, 0), .row true 14 1 (fun _ => Zam p)), ((7, 0, 0), .old (7, 0, 0), .row true 14 1 (fun _ => Zam q))] rfl (by rfl) ?_ (.old rfl (BLe.refl _) (.old rfl (BLe.refl _) (.old rfl (BLe.refl _) (.old rfl (BLe.refl _) .nil))))
      ((repeat' first | exact TLes.nil | refine TLes.cons (TLe.eq rfl) ?_); skip)
    rintro k ⟨hk2, hc2⟩
    ((repeat' first | refine Zad ?_ | (refine Zac tok (by rfl) ?_; conv => whnf) | (refine Za3 tok mix (by rfl) ?_; conv => whnf) | refine Zaf ?_ | (refine Zah ?_; conv => whnf) | (refine Zar ?_; conv => whnf) | refine Zag rfl (fun hb => ?_) (fun hb => ?_) | (refine @And.intro (Zaa _ _ _ _) _ ?_ ?_; rotate_left; (conv => whnf); rotate_right)); all_goals (try ((guard_target = Zaa _ _ _ _); refine Zae ?_; (all_goals (try simp only [Zaa, kzz, kz11, kz12, maxL, Zab] at *)); all_goals omega)))
    · have hlt2 : k < p.ins.length := by simp only [Zaa, kzz, kz11, kz12, maxL, Zab] at *; omega
      refine .inl ⟨_, _, _, uG (QC.fc (c_rSameIns (p.ins.getD (k : Int).toNat default) (q.ins.getD (k : Int).toNat default)) rfl), ?_⟩
      conv => whnf
      (repeat' first | refine Zad ?_ | (refine Zac tok (by rfl) ?_; conv => whnf) | (refine Zah ?_; conv => whnf) | (refine Zaj ?_; conv => whnf) | refine Zag rfl (fun hb => ?_) (fun hb => ?_))
      · refine ⟨_, rfl, Rel.bool ?_⟩
        symm; rw [decide_eq_false_iff_not]
        refine hne (fun e => ?_)
        subst e; simp at hb
      · refine ⟨k + 1, ⟨hlt2, fun j hj => ?_⟩, by omega, ?_⟩
        · by_cases e : j = k
          · subst e; simpa using hb
          · exact hc2 j (by omega)
        refine Weak.list [((2, 0, 0), .old (2, 0, 0), Zan (Zai ⟨a1, a2, a3⟩)), ((3, 0, 0), .old (3, 0, 0), Zan (Zai ⟨a1, a2, b3⟩)), ((6, 0, 0), .old (6, 0, 0), .row true 14 1 (fun _ => Zam p)), ((7, 0, 0), .old (7, 0, 0), .row true 14 1 (fun _ => Zam q))] rfl (by rfl) ?_ (.old rfl (BLe.refl _) (.old rfl (BLe.refl _) (.old rfl (BLe.refl _) (.old rfl (BLe.refl _) .nil))))
        ((repeat' first | exact TLes.nil | refine TLes.cons (TLe.eq rfl) ?_ | refine TLes.cons (TLe.int ?_) ?_); (all_goals first | ((try (simp only [Zaa, kzz, kz11, kz12, maxL, Zab] at *)); exact Zal (by omega) (by omega)) | skip))
    · have hk3 : k = p.ins.length := by simp only [Zaa, kzz, kz11, kz12, maxL, Zab] at *; omega
      have hpq : p = q := by
        have e5 : p.ins = q.ins := Zbo default e4 (fun j hj => hc2 j (by omega))
        obtain ⟨p1, p2, p3, p4⟩ := p
        obtain ⟨q1, q2, q3, q4⟩ := q
        simp only at e1 e2 e3 e5
        subst e1; subst e2; subst e3; subst e5; rfl
      refine ⟨i + 1, ⟨hlt, fun j hj => ?_⟩, by omega, ?_⟩
      · by_cases e : j = i
        · subst e; rw [hp, hq, hpq]
        · exact hc j (by omega)
      refine Weak.list [((2, 0, 0), .old (2, 0, 0), Zan (Zai ⟨a1, a2, a3⟩)), ((3, 0, 0), .old (3, 0, 0), Zan (Zai ⟨a1, a2, b3⟩))] rfl (by rfl) ?_ (.old rfl (BLe.refl _) (.old rfl (BLe.refl _) .nil))
      ((repeat' first | exact TLes.nil | refine TLes.cons (TLe.eq rfl) ?_ | refine TLes.cons (TLe.int ?_) ?_); (all_goals first | ((try (simp only [Zaa, kzz, kz11, kz12, maxL, Zab] at *)); exact Zal (by omega) (by omega)) | skip))
  · refine ⟨_, rfl, Rel.bool ?_⟩
    symm; rw [decide_eq_true_eq]
    rw [Zbo default hlen (fun j hj => hc j (by simp only [Zaa, kzz, kz11, kz12, maxL, Zab] at *; omega))]
theorem c_rSame (x y : Za1) : FC Try.prog 28 [.agg (Zax x), .agg (Zax y)] (.bool (decide (x = y))) := by
  refine Zay tok Try.func28 rfl (by decide +kernel) (Nat.le_of_ble_eq_true rfl) ?_
  refine Zat 0 (fun hl => ?_)
  have hl0 : x.funcs.length ≤ maxL := hl.1.1
  have hmx : maxL = 4294967296 := rfl
  clear hl
  obtain ⟨a⟩ := x
  obtain ⟨b⟩ := y
  simp only at hl0
  (repeat' first | refine Zad ?_ | (refine Zac tok (by rfl) ?_; conv => whnf) | refine Zaf ?_ | (refine Zah ?_; conv => whnf) | (refine Zaj ?_; conv => whnf) | refine Zag rfl (fun hb => ?_) (fun hb => ?_))
  · refine ⟨_, rfl, Rel.bool ?_⟩
    symm; rw [decide_eq_false_iff_not]
    intro e; cases e; simp at hb
  have hlen : a.length = b.length := by simp at hb; omega
  clear hb
  refine Zas (fun i : Nat => mkS [(2, .bp (2, 0, 0) 0), (3, .bp (3, 0, 0) 0), (5, iv i)] [((2, 0, 0), Zan (Zax ⟨a⟩)), ((3, 0, 0), Zan (Zax ⟨b⟩))])
    (fun i => i ≤ a.length ∧ ∀ j, j < i → a.getD j default = b.getD j default) (fun i => a.length - i) 0 ⟨Nat.zero_le _, by simp⟩ ?_ ?_
  · refine Weak.list [((2, 0, 0), .old (2, 0, 0), Zan (Zax ⟨a⟩)), ((3, 0, 0), .old (3, 0, 0), Zan (Zax ⟨b⟩))] rfl (by rfl) ?_ (.old rfl (BLe.refl _) (.old rfl (BLe.refl _) .nil))
    ((repeat' first | exact TLes.nil | refine TLes.cons (TLe.eq rfl) ?_); skip)
  rintro i ⟨hi2, hc⟩
  ((repeat' first | refine Zad ?_ | (refine Zac tok (by rfl) ?_; conv => whnf) | (refine Za3 tok mix (by rfl) ?_; conv => whnf) | refine Zaf ?_ | (refine Zah ?_; conv => whnf) | (refine Zar ?_; conv => whnf) | (refine Zaj ?_; conv => whnf) | refine Zag rfl (fun hb => ?_) (fun hb => ?_) | (refine @And.intro (Zaa _ _ _ _) _ ?_ ?_; rotate_left; (conv => whnf); rotate_right)); all_goals (try ((guard_target = Zaa _ _ _ _); refine Zae ?_; (all_goals (try simp only [Zaa, kzz, kz11, kz12, maxL, Zab] at *)); all_goals omega)))
  · have hlt : i < a.length := by simp only [Zaa, kzz, kz11, kz12, maxL, Zab] at *; omega
    refine .inl ⟨_, _, _, uG (QC.fc (c_rSameFunc (a.getD (i : Int).toNat default) (b.getD (i : Int).toNat default)) rfl), ?_⟩
    conv => whnf
    (repeat' first | refine Zad ?_ | (refine Zac tok (by rfl) ?_; conv => whnf) | (refine Zah ?_; conv => whnf) | (refine Zaj ?_; conv => whnf) | refine Zag rfl (fun hb => ?_) (fun hb => ?_))
    · refine ⟨_, rfl, Rel.bool ?_⟩
      symm; rw [decide_eq_false_iff_not]
      intro e; cases e; simp at hb
    · refine ⟨i + 1, ⟨hlt, fun j hj => ?_⟩, by omega, ?_⟩
      · by_cases e : j = i
        · subst e; simpa using hb
        · exact hc j (by omega)
      refine Weak.list [((2, 0, 0), .old (2, 0, 0), Zan (Zax ⟨a⟩)), ((3, 0, 0), .old (3, 0, 0), Zan (Zax ⟨b⟩))] rfl (by rfl) ?_ (.old rfl (BLe.refl _) (.old rfl (BLe.refl _) .nil))
      ((repeat' first | exact TLes.nil | refine TLes.cons (TLe.eq rfl) ?_ | refine TLes.cons (TLe.int ?_) ?_); (all_goals first | ((try (simp only [Zaa, kzz, kz11, kz12, maxL, Zab] at *)); exact Zal (by omega) (by omega)) | skip))
  · refine ⟨_, rfl, Rel.bool ?_⟩
    symm; rw [decide_eq_true_eq]
    rw [Zbo default hlen (fun j hj => hc j (by simp only [Zaa, kzz, kz11, kz12, maxL, Zab] at *; omega))]
end Go.Proofs.Ytmanpbgaihdalaa
namespace Go.Proofs.Ytmanpbgaihdalaa
open Go Dv
set_option maxRecDepth 10000
set_option linter.unusedSimpArgs false
end Go.Proofs.Ytmanpbgaihdalaa
namespace Go.Proofs.Ytmanpbgaihdalaa
open Go Dv
set_option linter.unusedSimpArgs false
def setsP (x : Ins) (p : Int) : Prop := x.op ≠ 10 ∧ x.op ≠ 12 ∧ x.dst = p
instance (x : Ins) (p : Int) : Decidable (setsP x p) := by unfold setsP; infer_instance
def alikeP (x y : Ins) : Prop := x.op = y.op ∧ 3 ≤ x.op ∧ x.op ≤ 8 ∧ ((x.a = y.a ∧ x.b = y.b) ∨ ((x.op = 3 ∨ x.op = 5 ∨ x.op = 7) ∧ x.a = y.b ∧ x.b = y.a))
instance (x y : Ins) : Decidable (alikeP x y) := by unfold alikeP; infer_instance
def keptAt (l : List Ins) (i k : Nat) : Prop := ¬ setsP (l.getD k default) (l.getD i default).a ∧ ¬ setsP (l.getD k default) (l.getD i default).b ∧ (i < k → ¬ setsP (l.getD k default) (l.getD i default).dst)
instance (l : List Ins) (i k : Nat) : Decidable (keptAt l i k) := by unfold keptAt; infer_instance
def keptP (l : List Ins) (i : Nat) : Prop := ∀ k, k < l.length → i ≤ k → keptAt l i k
instance (l : List Ins) (i : Nat) : Decidable (keptP l i) := by unfold keptP; infer_instance
theorem twoO_iff {op : Int} : twoO op = true ↔ 3 ≤ op ∧ op ≤ 8 := by
  unfold twoO; cases h : decide (2 < op) <;> simp at h ⊢ <;> omega
theorem hit_of {x : Ins} {p v : Int} : hit p ((ofD x).l, v) = true ↔ x.a = p ∨ x.b = p ∨ v = p := by
  unfold hit ofD Deed.l
  split <;> simp [or_assoc] <;> omega
theorem mlook_mem {m : Mp} {k : List Int} {v : Int} (h : Zc2 m k = some v) : (k, v) ∈ m := by
  induction m with
  | nil => cases h
  | cons q r ih =>
    obtain ⟨a, b⟩ := q
    simp only [Zc2] at h
    split at h
    · rename_i e; subst e; cases h; simp
    · exact List.mem_cons_of_mem _ (ih h)
theorem mem_mlook {m : Mp} (hn : (m.map (·.1)).Nodup) {k : List Int} {v : Int} (h : (k, v) ∈ m) : Zc2 m k = some v := by
  induction m with
  | nil => cases h
  | cons q r ih =>
    obtain ⟨a, b⟩ := q
    simp only [List.map_cons, List.nodup_cons] at hn
    simp only [Zc2]
    rcases List.mem_cons.1 h with e | e
    · cases e; simp
    · split
      · rename_i e2; subst e2; exact absurd (List.mem_map.2 ⟨_, e, rfl⟩) hn.1
      · exact ih hn.2 e
theorem mlook_forget {m : Mp} (hn : (m.map (·.1)).Nodup) {p : Int} {k : List Int} {v : Int} : Zc2 (Zde m p) k = some v ↔ Zc2 m k = some v ∧ hit p (k, v) = false := by
  have hn2 : ((Zde m p).map (·.1)).Nodup := by
    unfold Zde
    exact (List.Sublist.map _ List.filter_sublist).nodup hn
  constructor
  · intro h
    have := mlook_mem h
    unfold Zde at this
    rw [List.mem_filter] at this
    exact ⟨mem_mlook hn this.1, by simpa using this.2⟩
  · rintro ⟨h1, h2⟩
    refine mem_mlook hn2 ?_
    unfold Zde
    rw [List.mem_filter]
    exact ⟨mlook_mem h1, by simp [h2]⟩
theorem mlook_mput {m : Mp} {k k' : List Int} {v : Int} : Zc2 (mput m k v) k' = if k = k' then some v else Zc2 m k' := by
  induction m with
  | nil => simp [mput, Zc2]
  | cons q r ih =>
    obtain ⟨a, b⟩ := q
    simp only [mput]
    by_cases e : a = k
    · subst e
      simp only [if_true, Zc2]
      by_cases e2 : a = k'
      · simp [e2]
      · simp [e2]
    · simp only [if_neg e, Zc2]
      by_cases e2 : a = k'
      · subst e2; simp; exact fun h => absurd h.symm e
      · simp only [if_neg e2]; exact ih
theorem mem_mput {m : Mp} {k : List Int} {v : Int} {q : List Int × Int} (h : q ∈ mput m k v) : q = (k, v) ∨ q ∈ m := by
  induction m with
  | nil => simp [mput] at h; exact .inl h
  | cons p r ih =>
    obtain ⟨a, b⟩ := p
    simp only [mput] at h
    split at h
    · rcases List.mem_cons.1 h with h | h
      · exact .inl h
      · exact .inr (List.mem_cons_of_mem _ h)
    · rcases List.mem_cons.1 h with h | h
      · exact .inr (h ▸ List.mem_cons_self)
      · rcases ih h with h | h
        · exact .inl h
        · exact .inr (List.mem_cons_of_mem _ h)
theorem mput_keys {m : Mp} {k : List Int} {v : Int} (hn : (m.map (·.1)).Nodup) : ((mput m k v).map (·.1)).Nodup := by
  induction m with
  | nil => simp [mput]
  | cons q r ih =>
    obtain ⟨a, b⟩ := q
    simp only [List.map_cons, List.nodup_cons] at hn
    simp only [mput]
    by_cases e : a = k
    · subst e; simp only [if_true, List.map_cons, List.nodup_cons]; exact hn
    · simp only [if_neg e, List.map_cons, List.nodup_cons]
      refine ⟨fun h => ?_, ih hn.2⟩
      rw [List.mem_map] at h
      obtain ⟨⟨c, d⟩, h1, h2⟩ := h
      simp only at h2; subst h2
      rcases mem_mput h1 with h3 | h3
      · cases h3; exact e rfl
      · exact hn.1 (List.mem_map.2 ⟨_, h3, rfl⟩)
theorem Zdd {l : List Ins} {y : Ins} {k : Nat} (h : k < l.length) : (l ++ [y]).getD k default = l.getD k default := by rw [getD_append, if_pos h]
theorem Ze2 {l : List Ins} {y : Ins} : (l ++ [y]).getD l.length default = y := by rw [getD_append, if_neg (Nat.lt_irrefl _), Nat.sub_self]; rfl
theorem kept_old {l : List Ins} {y : Ins} {i : Nat} (hi : i < l.length) : keptP (l ++ [y]) i ↔ keptP l i ∧ ¬ setsP y (l.getD i default).a ∧ ¬ setsP y (l.getD i default).b ∧ ¬ setsP y (l.getD i default).dst := by
  constructor
  · intro h
    refine ⟨fun k hk hik => ?_, ?_⟩
    · have := h k (by simp; omega) hik
      unfold keptAt at this ⊢
      rw [Zdd hk, Zdd hi] at this; exact this
    · have := h l.length (by simp) (by omega)
      unfold keptAt at this
      rw [Ze2, Zdd hi] at this
      exact ⟨this.1, this.2.1, this.2.2 hi⟩
  · rintro ⟨h1, h2, h3, h4⟩ k hk hik
    unfold keptAt
    by_cases e : k < l.length
    · have := h1 k e hik
      unfold keptAt at this
      rw [Zdd e, Zdd hi]; exact this
    · have : k = l.length := by simp at hk; omega
      subst this
      rw [Ze2, Zdd hi]; exact ⟨h2, h3, fun _ => h4⟩
theorem kept_new {l : List Ins} {y : Ins} : keptP (l ++ [y]) l.length ↔ ¬ setsP y y.a ∧ ¬ setsP y y.b := by
  constructor
  · intro h
    have := h l.length (by simp) (Nat.le_refl _)
    unfold keptAt at this
    rw [Ze2] at this; exact ⟨this.1, this.2.1⟩
  · rintro ⟨h1, h2⟩ k hk hik
    have : k = l.length := by simp at hk; omega
    subst this
    unfold keptAt
    rw [Ze2]; exact ⟨h1, h2, fun h => absurd h (Nat.lt_irrefl _)⟩
structure PInv (l : List Ins) (m : Mp) : Prop where
  nd : (m.map (·.1)).Nodup
  fwd : ∀ key v, Zc2 m key = some v → ∃ k, k < l.length ∧ keptP l k ∧ twoO (l.getD k default).op = true ∧ (ofD (l.getD k default)).l = key ∧ (l.getD k default).dst = v
  bwd : ∀ k, k < l.length → keptP l k → twoO (l.getD k default).op = true → Zc2 m (ofD (l.getD k default)).l = some (l.getD k default).dst
theorem PInv.step {l : List Ins} {m : Mp} (h : PInv l m) (x : Ins) : PInv (l ++ [sameY m x]) (sameM m x) := by
  generalize hy : sameY m x = y
  have hset : ∀ p, setsP y p ↔ ¬ (y.op = 10 ∨ y.op = 12) ∧ y.dst = p := fun p => by unfold setsP; omega
  have htwo : twoO y.op = true → y = x ∧ twoO x.op = true ∧ Zc2 m (ofD x).l = none := fun ht => by
    unfold sameY at hy
    split at hy
    · subst hy; simp [twoO] at ht
    · rename_i hh
      subst hy
      refine ⟨rfl, ht, ?_⟩
      unfold sameHit at hh
      rw [ht] at hh
      cases hm : Zc2 m (ofD x).l with
      | none => rfl
      | some v => rw [hm] at hh; simp at hh
  unfold sameM
  rw [hy]
  by_cases h10 : y.op = 10 ∨ y.op = 12
  · rw [if_pos h10]
    have hno : ∀ p, ¬ setsP y p := fun p hp => ((hset p).1 hp).1 h10
    refine ⟨h.nd, fun key v hv => ?_, fun k hk hkp ht => ?_⟩
    · obtain ⟨k, h1, h2, h3, h4, h5⟩ := h.fwd key v hv
      exact ⟨k, by simp; omega, (kept_old h1).2 ⟨h2, hno _, hno _, hno _⟩, by rw [Zdd h1]; exact h3, by rw [Zdd h1]; exact h4, by rw [Zdd h1]; exact h5⟩
    · by_cases e : k < l.length
      · rw [Zdd e] at ht ⊢
        exact h.bwd k e ((kept_old e).1 hkp).1 ht
      · have : k = l.length := by simp at hk; omega
        subst this
        rw [Ze2, twoO_iff] at ht
        omega
  · rw [if_neg h10]
    have hset2 : ∀ p, setsP y p ↔ y.dst = p := fun p => by rw [hset]; exact ⟨fun a => a.2, fun a => ⟨h10, a⟩⟩
    have hnf : ((Zde m y.dst).map (·.1)).Nodup := by
      unfold Zde; exact (List.Sublist.map _ List.filter_sublist).nodup h.nd
    have old1 : ∀ key v, Zc2 (Zde m y.dst) key = some v → ∃ k, k < (l ++ [y]).length ∧ keptP (l ++ [y]) k ∧ twoO ((l ++ [y]).getD k default).op = true ∧ (ofD ((l ++ [y]).getD k default)).l = key ∧ ((l ++ [y]).getD k default).dst = v := fun key v hv => by
      obtain ⟨h0, hh⟩ := (mlook_forget h.nd).1 hv
      obtain ⟨k, h1, h2, h3, h4, h5⟩ := h.fwd key v h0
      have h6 : ¬ ((l.getD k default).a = y.dst ∨ (l.getD k default).b = y.dst ∨ v = y.dst) := fun e => by
        have := hit_of.2 e
        rw [h4, hh] at this; cases this
      exact ⟨k, by simp; omega, (kept_old h1).2 ⟨h2, fun e => h6 (.inl ((hset2 _).1 e).symm), fun e => h6 (.inr (.inl ((hset2 _).1 e).symm)), fun e => h6 (.inr (.inr (by rw [← h5]; exact ((hset2 _).1 e).symm)))⟩, by rw [Zdd h1]; exact h3, by rw [Zdd h1]; exact h4, by rw [Zdd h1]; exact h5⟩
    have old2 : ∀ k, k < l.length → keptP (l ++ [y]) k → twoO (l.getD k default).op = true → Zc2 m (ofD (l.getD k default)).l = some (l.getD k default).dst ∧ Zc2 (Zde m y.dst) (ofD (l.getD k default)).l = some (l.getD k default).dst := fun k e hkp ht => by
      obtain ⟨h1, h2, h3, h4⟩ := (kept_old e).1 hkp
      have h5 := h.bwd k e h1 ht
      refine ⟨h5, (mlook_forget h.nd).2 ⟨h5, ?_⟩⟩
      rw [Bool.eq_false_iff]
      intro hh
      rw [hset2] at h2 h3 h4
      rcases hit_of.1 hh with e1 | e1 | e1
      · exact h2 e1.symm
      · exact h3 e1.symm
      · exact h4 e1.symm
    by_cases hput : sameOk m x = true ∧ y.dst ≠ (ofD x).a ∧ y.dst ≠ (ofD x).b
    · rw [if_pos hput]
      obtain ⟨hok, hna, hnb⟩ := hput
      unfold sameOk at hok
      rw [Bool.and_eq_true] at hok
      have hnone : Zc2 m (ofD x).l = none := by
        cases hm : Zc2 m (ofD x).l with
        | none => rfl
        | some v => rw [hm] at hok; simp at hok
      have hyx : y = x := by
        unfold sameY sameHit at hy
        rw [hok.1, hnone] at hy; simpa using hy.symm
      subst hyx
      have hab : y.dst ≠ y.a ∧ y.dst ≠ y.b := by
        unfold ofD at hna hnb
        split at hna <;> simp_all
      refine ⟨mput_keys hnf, fun key v hv => ?_, fun k hk hkp ht => ?_⟩
      · rw [mlook_mput] at hv
        split at hv
        · rename_i e
          cases hv
          exact ⟨l.length, by simp, kept_new.2 ⟨fun e => hab.1 ((hset2 _).1 e), fun e => hab.2 ((hset2 _).1 e)⟩, by rw [Ze2]; exact hok.1, by rw [Ze2]; exact e, by rw [Ze2]⟩
        · exact old1 key v hv
      · by_cases e : k < l.length
        · rw [Zdd e] at ht ⊢
          obtain ⟨a1, a2⟩ := old2 k e hkp ht
          rw [mlook_mput, if_neg (fun e2 => by rw [← e2, hnone] at a1; cases a1)]
          exact a2
        · have : k = l.length := by simp at hk; omega
          subst this
          rw [Ze2, mlook_mput, if_pos rfl]
    · rw [if_neg hput]
      refine ⟨hnf, old1, fun k hk hkp ht => ?_⟩
      by_cases e : k < l.length
      · rw [Zdd e] at ht ⊢
        exact (old2 k e hkp ht).2
      · exfalso
        have : k = l.length := by simp at hk; omega
        subst this
        rw [Ze2] at ht
        obtain ⟨rfl, h1, h2⟩ := htwo ht
        obtain ⟨h3, h4⟩ := kept_new.1 hkp
        rw [hset2] at h3 h4
        refine hput ⟨by unfold sameOk; rw [h1, h2]; rfl, ?_, ?_⟩
        · unfold ofD; split <;> simp <;> first | exact h4 | exact h3
        · unfold ofD; split <;> simp <;> first | exact h3 | exact h4
theorem PInv.nil : PInv [] [] := ⟨List.nodup_nil, (fun _ _ h => by cases h), (fun k hk => by simp at hk)⟩
end Go.Proofs.Ytmanpbgaihdalaa
namespace Go.Proofs.Ytmanpbgaihdalaa
open Go Dv
set_option maxRecDepth 10000
set_option linter.unusedSimpArgs false
end Go.Proofs.Ytmanpbgaihdalaa
namespace Go.Proofs.Ytmanpbgaihdalaa
open Go Dv
set_option maxRecDepth 10000
set_option linter.unusedSimpArgs false
end Go.Proofs.Ytmanpbgaihdalaa
namespace Go.Proofs.Ytmanpbgaihdalaa
open Go Dv
set_option maxRecDepth 10000
set_option linter.unusedSimpArgs false
theorem okB_of {m : Za1} (h : Zc0 m = true) {n i : Nat} (hn : n < m.funcs.length) (hi : i < (m.funcs.getD n default).blocks.length) : OkB m.funcs.length (m.funcs.getD n default).blocks.length ((m.funcs.getD n default).blocks.getD i default) := blk_ok (Zfu (Zdu h hn) hi)
end Go.Proofs.Ytmanpbgaihdalaa
namespace Go.Proofs.Ytmanpbgaihdalaa
open Go Dv
set_option maxRecDepth 10000
set_option linter.unusedSimpArgs false
end Go.Proofs.Ytmanpbgaihdalaa
namespace Go.Proofs.Ytmanpbgaihdalaa
open Go Dv
set_option maxRecDepth 10000
set_option linter.unusedSimpArgs false
def blkG (l : List Func) (p : Nat → Bool) : Zaq := famC 1000 (fun j z => bif Nat.beq z 0 && (Nat.blt j l.length && p j) then some (blkR j (l.getD j default).blocks (l.getD j default).blocks.length (fun _ => .any)) else none)
def insG (l : List Func) (p : Nat → Nat → Bool) : Zaq := famC 1001 (fun j q => bif (Nat.blt j l.length && Nat.blt q (l.getD j default).blocks.length) && p j q then some (insR ((l.getD j default).blocks.getD q default).ins) else none)
def Zbl (l : List Func) (p : Nat → Bool) (r : Nat → Nat → Bool) : Zaq := orH (blkG l p) (insG l r)
theorem blkG_some {l : List Func} {p : Nat → Bool} {j : Dv.Id} {b : Zap} (h : blkG l p j = some b) : ∃ i, j = (1000, i, 0) ∧ i < l.length ∧ p i = true ∧ b = blkR i (l.getD i default).blocks (l.getD i default).blocks.length (fun _ => .any) := by
  obtain ⟨a, z, rfl, h3⟩ := Zfd h
  cases e : (Nat.beq z 0 && (Nat.blt a l.length && p a)) with
  | false => rw [e] at h3; cases h3
  | true =>
    rw [e] at h3
    rw [Bool.and_eq_true, Bool.and_eq_true, Nat.blt_eq] at e
    have := Nat.eq_of_beq_eq_true e.1
    subst this
    exact ⟨a, rfl, e.2.1, e.2.2, (Option.some.inj h3).symm⟩
theorem blkG_at {l : List Func} {p : Nat → Bool} {i : Nat} (h : i < l.length) (hp : p i = true) : blkG l p (1000, i, 0) = some (blkR i (l.getD i default).blocks (l.getD i default).blocks.length (fun _ => .any)) := by
  show (bif (Nat.beq 0 0 && (Nat.blt i l.length && p i)) then _ else none) = _
  have : (Nat.beq 0 0 && (Nat.blt i l.length && p i)) = true := by
    rw [Bool.and_eq_true, Bool.and_eq_true, Nat.blt_eq]; exact ⟨rfl, h, hp⟩
  rw [this]; rfl
theorem insG_some {l : List Func} {p : Nat → Nat → Bool} {j : Dv.Id} {b : Zap} (h : insG l p j = some b) : ∃ i q, j = (1001, i, q) ∧ i < l.length ∧ q < (l.getD i default).blocks.length ∧ p i q = true ∧ b = insR ((l.getD i default).blocks.getD q default).ins := by
  obtain ⟨a, q, rfl, h3⟩ := Zfd h
  cases e : ((Nat.blt a l.length && Nat.blt q (l.getD a default).blocks.length) && p a q) with
  | false => rw [e] at h3; cases h3
  | true =>
    rw [e] at h3
    rw [Bool.and_eq_true, Bool.and_eq_true, Nat.blt_eq, Nat.blt_eq] at e
    exact ⟨a, q, rfl, e.1.1, e.1.2, e.2, (Option.some.inj h3).symm⟩
theorem insG_at {l : List Func} {p : Nat → Nat → Bool} {i q : Nat} (h : i < l.length) (hq : q < (l.getD i default).blocks.length) (hp : p i q = true) : insG l p (1001, i, q) = some (insR ((l.getD i default).blocks.getD q default).ins) := by
  show (bif ((Nat.blt i l.length && Nat.blt q (l.getD i default).blocks.length) && p i q) then _ else none) = _
  have : ((Nat.blt i l.length && Nat.blt q (l.getD i default).blocks.length) && p i q) = true := by
    rw [Bool.and_eq_true, Bool.and_eq_true, Nat.blt_eq, Nat.blt_eq]; exact ⟨⟨h, hq⟩, hp⟩
  rw [this]; rfl
theorem Zbv {l : List Func} {p : Nat → Bool} {r : Nat → Nat → Bool} {i : Nat} (h : i < l.length) (hp : p i = true) : Zbl l p r (1000, i, 0) = some (blkR i (l.getD i default).blocks (l.getD i default).blocks.length (fun _ => .any)) := by
  unfold Zbl orH; rw [blkG_at h hp]
theorem Zbq {l : List Func} {p : Nat → Bool} {r : Nat → Nat → Bool} {i q : Nat} (h : i < l.length) (hq : q < (l.getD i default).blocks.length) (hp : r i q = true) : Zbl l p r (1001, i, q) = some (insR ((l.getD i default).blocks.getD q default).ins) := by
  show insG l r (1001, i, q) = _
  exact insG_at h hq hp
theorem Zb4 {l : List Func} {p : Nat → Bool} {r : Nat → Nat → Bool} {j : Dv.Id} {b : Zap} (h : Zbl l p r j = some b) :
    (∃ i, j = (1000, i, 0) ∧ i < l.length ∧ p i = true ∧ b = blkR i (l.getD i default).blocks (l.getD i default).blocks.length (fun _ => .any)) ∨
    ∃ i q, j = (1001, i, q) ∧ i < l.length ∧ q < (l.getD i default).blocks.length ∧ r i q = true ∧ b = insR ((l.getD i default).blocks.getD q default).ins := by
  rcases Zfr h with e | ⟨_, e⟩
  · exact .inl (blkG_some e)
  · exact .inr (insG_some e)
theorem copyH_dom {l : List Func} {i : Dv.Id} (h : (copyH l i).isSome = true) : i = (900, 0, 0) ∨ (∃ j, i = (1000, j, 0)) ∨ ∃ j q, i = (1001, j, q) := by
  cases e : copyH l i with
  | none => rw [e] at h; cases h
  | some b =>
    rcases Zfr e with e | ⟨_, e⟩
    · simp only [Za6] at e
      cases e2 : idEq (900, 0, 0) i with
      | false => rw [e2] at e; cases e
      | true => have := Za5.1 e2; exact .inl this.symm
    · rcases Zch e with ⟨i, rfl, _⟩ | ⟨i, q, rfl, _⟩
      · exact .inr (.inl ⟨i, rfl⟩)
      · exact .inr (.inr ⟨i, q, rfl⟩)
def pO (i j : Nat) : Bool := Nat.ble i j
def rO (i j _q : Nat) : Bool := Nat.ble i j
def pI (i j : Nat) : Bool := Nat.blt i j
def rI (i k j q : Nat) : Bool := Nat.blt i j || (Nat.beq j i && Nat.ble k q)
theorem Zeq {i k j q : Nat} : rI i k j q = true ↔ i < j ∨ (j = i ∧ k ≤ q) := by
  unfold rI; rw [Bool.or_eq_true, Bool.and_eq_true, Nat.blt_eq, Nat.ble_eq]; simp
theorem treeG_hd {l : List Func} {p : Nat → Bool} {r : Nat → Nat → Bool} {S : List (Dv.Id × Option Dv.Id)} {i : Dv.Id} (hS : ∀ a b, srcL S (1000, a, b) ≠ some i ∧ srcL S (1001, a, b) ≠ some i) : ∀ j, (Zbl l p r j).isSome = true → srcL S j ≠ some i := by
  intro j h
  cases e : Zbl l p r j with
  | none => rw [e] at h; cases h
  | some b =>
    rcases Zb4 e with ⟨a, rfl, _⟩ | ⟨a, q, rfl, _⟩
    · exact (hS a 0).1
    · exact (hS a q).2
abbrev ownI (i : Nat) (l : List Zbk) (q : Nat) : AV := .rs (1001, i, q) 7 0 (l.getD q default).ins.length
theorem orH_right {L : List (Dv.Id × Zap)} {F : Zaq} {j : Dv.Id} {b : Zap} (hn : Za6 L j = none) (e : F j = some b) : orH (Za6 L) F j = some b := by unfold orH; rw [hn]; exact e
theorem map_sel (ρ : Dv.Id → Option Dv.Id) (b : Bool) (x y : AV) : Zbp ρ (sel b x y) = sel b (Zbp ρ x) (Zbp ρ y) := by cases b <;> rfl
theorem keepA {src : Dv.Id → Option Dv.Id} {h h' : Zaq} {fs : List Func} {i q n : Nat} {b b2 : Zap} {x : AV} (hx : immD x = true) (h1 : i < q → h' (1000, q, 0) = some b) (hs : src (1000, q, 0) = some (1000, q, 0)) (h2 : h' (901, 0, 0) = some b2) (hs2 : src (901, 0, 0) = some (901, 0, 0)) :
    GV src h h' (sel (Nat.blt q i) x (sel (Nat.beq q i) (.rs (901, 0, 0) 14 0 n) (mem1 fs q))) (sel (Nat.blt q i) x (sel (Nat.beq q i) (.rs (901, 0, 0) 14 0 n) (mem1 fs q))) := by
  by_cases e1 : q < i
  · exact .cc (Za0 e1) (Za0 e1) (.imm hx)
  · have e1' := Nat.le_of_not_lt e1
    by_cases e : q = i
    · subst e
      exact .cc ((Zbc e1').trans Zcm) ((Zbc e1').trans Zcm) (.rs h2 hs2 rfl rfl)
    · exact .cc ((Zbc e1').trans (Zeb e)) ((Zbc e1').trans (Zeb e)) (.rs (h1 (by omega)) hs rfl rfl)
theorem keepFG {src : Dv.Id → Option Dv.Id} {h h' : Zaq} {fs : List Func} {i k k' : Nat} (hk : k ≤ k') (hh1 : ∀ p, p < fs.length → i < p → h (1000, p, 0) = some (blkR p (fs.getD p default).blocks (fs.getD p default).blocks.length (fun _ => .any)))
    (hh2 : ∀ p q, p < fs.length → q < (fs.getD p default).blocks.length → rI i k p q = true → h (1001, p, q) = some (insR ((fs.getD p default).blocks.getD q default).ins))
    (hh' : ∀ a b, h' (1000, a, b) = Zbl fs (pI i) (rI i k') (1000, a, b) ∧ h' (1001, a, b) = Zbl fs (pI i) (rI i k') (1001, a, b)) (hs : ∀ a b, src (1000, a, b) = some (1000, a, b) ∧ src (1001, a, b) = some (1001, a, b)) :
    ∀ j b, Zbl fs (pI i) (rI i k') j = some b → HOk src h h' j b := by
  intro j b e
  rcases Zb4 e with ⟨p, rfl, hp, h2, rfl⟩ | ⟨p, q, rfl, hp, hq, h2, rfl⟩
  · have h2' : i < p := by unfold pI at h2; rw [Nat.blt_eq] at h2; exact h2
    refine HOk.mk (hs p 0).1 (hh1 p hp h2') (Zcq (fun q hq => ?_))
    have hi := Zbq (p := pI i) (r := rI i k') hp hq (Zeq.2 (.inl h2'))
    exact .cc (Za0 hq) (Za0 hq) (.rs ((hh' p q).2.trans hi) (hs p q).2 rfl rfl)
  · have h2' := Zeq.1 h2
    exact HOk.mk (hs p q).2 (hh2 p q hp hq (Zeq.2 (by omega))) (Zc7 _)
theorem keepF {src : Dv.Id → Option Dv.Id} {h h' : Zaq} {fs : List Func} {i k k' : Nat} (hk : k ≤ k') (hh : ∀ a b, h (1000, a, b) = Zbl fs (pI i) (rI i k) (1000, a, b) ∧ h (1001, a, b) = Zbl fs (pI i) (rI i k) (1001, a, b))
    (hh' : ∀ a b, h' (1000, a, b) = Zbl fs (pI i) (rI i k') (1000, a, b) ∧ h' (1001, a, b) = Zbl fs (pI i) (rI i k') (1001, a, b)) (hs : ∀ a b, src (1000, a, b) = some (1000, a, b) ∧ src (1001, a, b) = some (1001, a, b)) :
    ∀ j b, Zbl fs (pI i) (rI i k') j = some b → HOk src h h' j b :=
  keepFG hk (fun p hp h2 => (hh p 0).1.trans (Zbv hp (by unfold pI; rw [Nat.blt_eq]; exact h2))) (fun p q hp hq h2 => (hh p q).2.trans (Zbq hp hq h2)) hh' hs
end Go.Proofs.Ytmanpbgaihdalaa
namespace Go.Proofs.Ytmanpbgaihdalaa
open Go Dv
set_option maxRecDepth 10000
set_option linter.unusedSimpArgs false
end Go.Proofs.Ytmanpbgaihdalaa
namespace Go.Proofs.Ytmanpbgaihdalaa
open Go Dv
set_option maxRecDepth 10000
set_option linter.unusedSimpArgs false
def insCall (x : Ins) (k : Int) : Bool := bif decide (x.op = 11) then decide (x.f = k) else false
def endCall (b : Zbk) (k : Int) : Bool := bif decide (b.fin.kind = 4) then decide (b.fin.f = k) else false
def blkCall (b : Zbk) (k : Int) : Bool := (b.ins.any fun x => insCall x k) || endCall b k
def doesCall (f : Func) (k : Int) : Bool := f.blocks.any fun b => blkCall b k
theorem any_yes {α : Type} {p : α → Bool} {l : List α} {i : Nat} (d : α) (hi : i < l.length) (h : p (l.getD i d) = true) : l.any p = true :=
  List.any_eq_true.2 ⟨l.getD i d, by rw [Zbh d hi]; exact List.getElem_mem hi, h⟩
theorem any_no {α : Type} {p : α → Bool} {l : List α} (d : α) (h : ∀ i, i < l.length → p (l.getD i d) = false) : l.any p = false := by
  rw [List.any_eq_false]
  intro x hx
  obtain ⟨i, hi, e⟩ := List.getElem_of_mem hx
  have := h i hi
  rw [Zbh d hi, e] at this
  rw [this]; simp
set_option maxHeartbeats 2000000 in
theorem c_Calls (f : Func) (k : Int) : FC Try.prog 155 [.agg (Zai f), iv k] (.bool (doesCall f k)) := by
  refine Zay tok Try.func155 rfl (by decide +kernel) (Nat.le_of_ble_eq_true rfl) ?_
  refine Zat 0 (fun hl => ?_)
  have hmx : maxL = 4294967296 := rfl
  have hl0 : f.blocks.length ≤ maxL := hl.2.2.1.1
  have hl1 : ∀ k, k < f.blocks.length → (f.blocks.getD k default).ins.length ≤ maxL := fun k hk => (hl.2.2.1.2 k hk).2.2.2.2.2.1.1
  clear hl
  (repeat' first | refine Zad ?_ | (refine Zac tok (by rfl) ?_; conv => whnf) | refine Zaf ?_)
  refine Zas (fun i : Nat => mkS [(1, iv k), (2, .bp (2, 0, 0) 0), (4, .bool false), (5, iv i)] [((2, 0, 0), Zan (Zai f))]) (fun i => i ≤ f.blocks.length ∧ ∀ j, j < i → blkCall (f.blocks.getD j default) k = false) (fun i => f.blocks.length - i) 0 ⟨Nat.zero_le _, fun j h => absurd h (Nat.not_lt_zero j)⟩ ?_ ?_
  · refine Weak.list [((2, 0, 0), .old (2, 0, 0), Zan (Zai f))] rfl (by rfl) ?_ (.old rfl (BLe.refl _) .nil)
    ((repeat' first | exact TLes.nil | refine TLes.cons (TLe.eq rfl) ?_); skip)
  rintro i ⟨hi, hc⟩
  (repeat' ((fail_if_success (show AWp _ _ _ (Code.region 4 _ _) _ _)); first | refine Zad ?_ | (refine Zac tok (by rfl) ?_; conv => whnf) | refine Zaf ?_ | (refine Zah ?_; conv => whnf) | (refine Zar ?_; conv => whnf) | (refine Zaj ?_; conv => whnf) | refine Zag rfl (fun hb => ?_) (fun hb => ?_)))
  · have hil : i < f.blocks.length := by simp only [decide_eq_true_eq] at hb; omega
    clear hb
    have h64 := hl1 i hil
    have hii : f.blocks.getD (i : Int).toNat default = f.blocks.getD i default := by rw [Int.toNat_natCast]
    have hgen : ∃ b, f.blocks.getD i default = b := ⟨_, rfl⟩
    obtain ⟨b, hbi⟩ := hgen
    rw [hbi] at h64 hii
    (repeat' first | (refine Zac tok (by rfl) ?_; conv => whnf) | refine Zaf ?_)
    refine Zas (fun j : Nat => mkS [(1, iv k), (2, .bp (2, 0, 0) 0), (4, .bool false), (5, iv i), (6, iv j)] [((2, 0, 0), Zan (Zai f))]) (fun j => j ≤ b.ins.length ∧ ∀ q, q < j → insCall (b.ins.getD q default) k = false) (fun j => b.ins.length - j) 0 ⟨Nat.zero_le _, fun j h => absurd h (Nat.not_lt_zero j)⟩ ?_ ?_
    · refine Weak.list [((2, 0, 0), .old (2, 0, 0), Zan (Zai f))] rfl (by rfl) ?_ (.old rfl (BLe.refl _) .nil)
      ((repeat' first | exact TLes.nil | refine TLes.cons (TLe.eq rfl) ?_); skip)
    rintro j ⟨hj, hcj⟩
    have hl2 : (f.blocks.getD (i : Int).toNat default).ins.length = b.ins.length := by rw [hii]
    have hl3 : (f.blocks.getD i default).ins.length = b.ins.length := by rw [hbi]
    have hji : ∀ c : Zbk, c.ins.getD (j : Int).toNat default = c.ins.getD j default := fun c => by rw [Int.toNat_natCast]
    ((repeat' ((fail_if_success (show AWp _ _ _ (Code.region 7 _ _) _ _)); (fail_if_success (show AWp _ _ _ (Code.region 9 _ _) _ _)); first | refine Zad ?_ | (refine Zac tok (by rfl) ?_; conv => whnf) | refine Zaf ?_ | (refine Zah ?_; conv => whnf) | (refine Zar ?_; conv => whnf) | refine Zag rfl (fun hb => ?_) (fun hb => ?_) | (refine @And.intro (Zaa _ _ _ _) _ ?_ ?_; rotate_left; (conv => whnf); rotate_right))); all_goals (try ((guard_target = Zaa _ _ _ _); refine Zae ?_; (all_goals (try simp only [Zaa, kzz, kz11, kz12, maxL, Zab] at *)); all_goals omega)))
    · have hjl : j < b.ins.length := by simp only [decide_eq_true_eq] at hb; omega
      clear hb
      ((repeat' first | refine Zad ?_ | (refine Zac tok (by rfl) ?_; conv => whnf) | (refine Zah ?_; conv => whnf) | (refine Zaj ?_; conv => whnf) | refine Zag rfl (fun hb => ?_) (fun hb => ?_) | (refine @And.intro (Zaa _ _ _ _) _ ?_ ?_; rotate_left; (conv => whnf); rotate_right)); all_goals (try ((guard_target = Zaa _ _ _ _); (first | refine Zae ?_ | (refine Za9 ?_; intro hgd; (conv at hgd => whnf))); (all_goals (try simp only [Zaa, kzz, kz11, kz12, maxL, Zab] at *)); all_goals omega)))
      · have hq : insCall (b.ins.getD j default) k = true := by
          simp only [Int.toNat_natCast, Nat.zero_add, hbi] at hb; exact hb
        refine ⟨_, rfl, Rel.bool ?_⟩
        refine (any_yes default hil ?_).symm
        rw [hbi]; unfold blkCall; rw [any_yes default hjl hq]; rfl
      · have hq : insCall (b.ins.getD j default) k = false := by
          simp only [Int.toNat_natCast, Nat.zero_add, hbi] at hb; exact hb
        clear hb
        refine ⟨j + 1, ⟨hjl, fun q hq' => ?_⟩, by omega, ?_⟩
        · by_cases e : q = j
          · subst e; exact hq
          · exact hcj q (by omega)
        refine Weak.list [((2, 0, 0), .old (2, 0, 0), Zan (Zai f))] rfl (by rfl) ?_ (.old rfl (BLe.refl _) .nil)
        ((repeat' first | exact TLes.nil | refine TLes.cons (TLe.eq rfl) ?_ | refine TLes.cons (TLe.int ?_) ?_); (all_goals first | ((try (simp only [Zaa, kzz, kz11, kz12, maxL, Zab] at *)); exact Zal (by omega) (by omega)) | skip))
    · have hjl : j = b.ins.length := by simp only [decide_eq_false_iff_not] at hb; omega
      clear hb
      subst hjl
      have hins : (b.ins.any fun x => insCall x k) = false := any_no default hcj
      ((repeat' first | refine Zad ?_ | (refine Zac tok (by rfl) ?_; conv => whnf) | (refine Zah ?_; conv => whnf) | (refine Zaj ?_; conv => whnf) | refine Zag rfl (fun hb => ?_) (fun hb => ?_) | (refine @And.intro (Zaa _ _ _ _) _ ?_ ?_; rotate_left; (conv => whnf); rotate_right)); all_goals (try ((guard_target = Zaa _ _ _ _); (first | refine Zae ?_ | (refine Za9 ?_; intro hgd; (conv at hgd => whnf))); (all_goals (try simp only [Zaa, kzz, kz11, kz12, maxL, Zab] at *)); all_goals omega)))
      · have hq : endCall b k = true := by
          simp only [Int.toNat_natCast, Nat.zero_add, hbi] at hb; exact hb
        refine ⟨_, rfl, Rel.bool ?_⟩
        refine (any_yes default hil ?_).symm
        rw [hbi]; unfold blkCall; rw [hq, Bool.or_true]
      · have hq : endCall b k = false := by
          simp only [Int.toNat_natCast, Nat.zero_add, hbi] at hb; exact hb
        clear hb
        refine ⟨i + 1, ⟨hil, fun q hq' => ?_⟩, by omega, ?_⟩
        · by_cases e : q = i
          · subst e; rw [hbi]; unfold blkCall; rw [hins, hq]; rfl
          · exact hc q (by omega)
        refine Weak.list [((2, 0, 0), .old (2, 0, 0), Zan (Zai f))] rfl (by rfl) ?_ (.old rfl (BLe.refl _) .nil)
        ((repeat' first | exact TLes.nil | refine TLes.cons (TLe.eq rfl) ?_ | refine TLes.cons (TLe.int ?_) ?_); (all_goals first | ((try (simp only [Zaa, kzz, kz11, kz12, maxL, Zab] at *)); exact Zal (by omega) (by omega)) | skip))
  · have hil : i = f.blocks.length := by simp only [decide_eq_false_iff_not] at hb; omega
    clear hb
    subst hil
    skip
    refine ⟨_, rfl, Rel.bool ?_⟩
    exact (any_no default hc).symm
end Go.Proofs.Ytmanpbgaihdalaa
namespace Go.Proofs.Ytmanpbgaihdalaa
open Go Dv
set_option maxRecDepth 10000
set_option linter.unusedSimpArgs false
def ofK (m : Za1) (n : Int) (k : Nat) : Bool := bif inn n m.funcs.length then doesCall (m.funcs.getD n.toNat default) k else false
def ofN (m : Za1) (n : Int) (j : Nat) : List Nat := (List.range j).filter fun k => ofK m n k
def ofL (m : Za1) (n : Int) : List Int := (ofN m n m.funcs.length).map Int.ofNat
theorem ofN_yes {m : Za1} {n : Int} {k : Nat} (h : ofK m n k = true) : ofN m n (k + 1) = ofN m n k ++ [k] := by
  unfold ofN; rw [List.range_succ, List.filter_append]; simp [h, List.filter_cons]
theorem ofN_no {m : Za1} {n : Int} {k : Nat} (h : ofK m n k = false) : ofN m n (k + 1) = ofN m n k := by
  unfold ofN; rw [List.range_succ, List.filter_append]; simp [h, List.filter_cons]
theorem ofN_le (m : Za1) (n : Int) (k : Nat) : (ofN m n k).length ≤ k := by
  unfold ofN
  have := List.length_filter_le (fun k => ofK m n k) (List.range k)
  rw [List.length_range] at this
  exact this
set_option maxHeartbeats 2000000 in
theorem c_Of (m : Za1) (n : Int) : FOi 133 [.agg (Zax m), iv n] (ofL m n) := by
  refine Zc6 tok Try.func133 rfl (by decide +kernel) (Nat.le_of_ble_eq_true rfl) ?_
  refine Zat 0 (fun hl => ?_)
  have hmx : maxL = 4294967296 := rfl
  have hl0 : m.funcs.length ≤ maxL := hl.1.1
  clear hl
  (repeat' first | refine Zad ?_ | (refine Zac tok (by rfl) ?_; conv => whnf) | refine Zaf ?_)
  refine Zas (fun k : Nat => mkS [(1, iv n), (2, .bp (2, 0, 0) 0), (5, .rs (30, 0, 0) 1 0 (ofN m n k).length), (6, iv k)] [((2, 0, 0), Zan (Zax m)), ((30, 0, 0), .row true 1 (ofN m n k).length (fun q => [iv (((ofN m n k).getD q 0 : Nat) : Int)]))]) (fun k => k ≤ m.funcs.length) (fun k => m.funcs.length - k) 0 (Nat.zero_le _) ?_ ?_
  · refine Weak.list [((2, 0, 0), .old (2, 0, 0), Zan (Zax m)), ((30, 0, 0), .nil, .row true 1 0 (fun q => [iv (((ofN m n 0).getD q 0 : Nat) : Int)]))] rfl (by rfl) ?_ (.old rfl (BLe.refl _) (.new .nil))
    ((repeat' first | exact TLes.nil | refine TLes.cons (TLe.eq rfl) ?_ | refine TLes.cons (TLe.nilL rfl ?_) ?_); (all_goals first | rfl | skip))
  intro k hk
  have hnb := ofN_le m n k
  (repeat' ((fail_if_success (show AWp _ _ _ (Code.region 5 _ _) _ _)); (fail_if_success (show AWp _ _ _ (Code.region 7 _ _) _ _)); first | refine Zad ?_ | (refine Zac tok (by rfl) ?_; conv => whnf) | refine Zaf ?_ | (refine Zah ?_; conv => whnf) | (refine Zar ?_; conv => whnf) | refine Zag rfl (fun hb => ?_) (fun hb => ?_)))
  · have hkl : k < m.funcs.length := by simp only [decide_eq_true_eq] at hb; omega
    clear hb
    by_cases h0 : 0 ≤ n
    · by_cases h1 : n < m.funcs.length
      · have hk1 : ofK m n k = doesCall (m.funcs.getD n.toNat default) k := by unfold ofK inn; rw [decide_eq_true h0, decide_eq_true h1]; rfl
        have hcall := c_Calls (m.funcs.getD n.toNat default) k
        refine Zf1 tok (fun j => bif Nat.beq j 2 then some true else bif Nat.beq j 9 then some true else none) (by rfl) ?_
        conv => whnf
        refine ⟨by rw [decide_eq_true h0], ?_⟩
        conv => whnf
        refine ⟨by rw [decide_eq_true h1]; rfl, ?_⟩
        ((repeat' (refine @And.intro (Zaa _ _ _ _) _ ?_ ?_; rotate_left; (conv => whnf); rotate_right)); all_goals (try ((guard_target = Zaa _ _ _ _); refine Zae ?_; (all_goals (try simp only [Zaa, kzz, kz11, kz12, maxL, Zab] at *)); all_goals omega)))
        refine .inl ⟨_, _, _, uG (QC.fc hcall rfl), ?_⟩
        conv => whnf
        ((repeat' first | (refine Zac tok (by rfl) ?_; conv => whnf) | (refine Zah ?_; conv => whnf) | refine Zag rfl (fun hb => ?_) (fun hb => ?_) | (refine @And.intro (Zaa _ _ _ _) _ ?_ ?_; rotate_left; (conv => whnf); rotate_right)); all_goals (try ((guard_target = Zaa _ _ _ _); refine Zae ?_; (first | refine And.intro (Zbx rfl ?_) ?_ | skip); (all_goals (try simp only [Zaa, kzz, kz11, kz12, maxL, Zab] at *)); all_goals omega)))
        · have hk0 : ofK m n k = true := by rw [hk1]; simpa using hb
          clear hb
          refine ⟨k + 1, hkl, by omega, ?_⟩
          show Weak _ _ _ (mkS [(1, iv n), (2, .bp (2, 0, 0) 0), (5, .rs (30, 0, 0) 1 0 (ofN m n (k + 1)).length), (6, iv (k + 1))] [((2, 0, 0), Zan (Zax m)), ((30, 0, 0), .row true 1 (ofN m n (k + 1)).length (fun q => [iv (((ofN m n (k + 1)).getD q 0 : Nat) : Int)]))])
          rw [ofN_yes hk0]
          refine Weak.list [((2, 0, 0), .old (2, 0, 0), Zan (Zax m)), ((30, 0, 0), .old (35, 0, 0), .row true 1 (ofN m n k ++ [k]).length (fun q => [iv (((ofN m n k ++ [k]).getD q 0 : Nat) : Int)]))] rfl (by rfl) ?_ (.old rfl (BLe.refl _) (.old rfl (BLe.rowW (Nat.le_of_eq (by simp)) (fun z hz => Wks.of ?_)) .nil))
          · ((repeat' first | exact TLes.nil | refine TLes.cons (TLe.eq rfl) ?_ | refine TLes.cons (TLe.rsL rfl ?_) ?_ | refine TLes.cons (TLe.int ?_) ?_); (all_goals first | ((try (simp only [Zaa, kzz, kz11, kz12, maxL, Zab] at *)); exact Zal (by omega) (by omega)) | skip))
            all_goals (try simp)
          · rw [List.length_append] at hz
            refine app_fnW (sz := 1) (f := fun q => [iv (((ofN m n k).getD q 0 : Nat) : Int)]) (g := fun q => [iv (((ofN m n k ++ [k]).getD q 0 : Nat) : Int)]) (c := [iv (k : Int)]) (fun i hi => ?_) ?_ rfl hz
            · simp only [List.getD_eq_getElem?_getD, List.getElem?_append_left hi]
            · simp only [List.getD_eq_getElem?_getD, List.getElem?_append_right (Nat.le_refl _), Nat.sub_self]; rfl
        · have hk0 : ofK m n k = false := by rw [hk1]; simpa using hb
          clear hb
          refine ⟨k + 1, hkl, by omega, ?_⟩
          show Weak _ _ _ (mkS [(1, iv n), (2, .bp (2, 0, 0) 0), (5, .rs (30, 0, 0) 1 0 (ofN m n (k + 1)).length), (6, iv (k + 1))] [((2, 0, 0), Zan (Zax m)), ((30, 0, 0), .row true 1 (ofN m n (k + 1)).length (fun q => [iv (((ofN m n (k + 1)).getD q 0 : Nat) : Int)]))])
          rw [ofN_no hk0]
          refine Weak.list [((2, 0, 0), .old (2, 0, 0), Zan (Zax m)), ((30, 0, 0), .old (30, 0, 0), .row true 1 (ofN m n k).length (fun q => [iv (((ofN m n k).getD q 0 : Nat) : Int)]))] rfl (by rfl) ?_ (.old rfl (BLe.refl _) (.old rfl (BLe.refl _) .nil))
          ((repeat' first | exact TLes.nil | refine TLes.cons (TLe.eq rfl) ?_ | refine TLes.cons (TLe.int ?_) ?_); (all_goals first | ((try (simp only [Zaa, kzz, kz11, kz12, maxL, Zab] at *)); exact Zal (by omega) (by omega)) | skip))
      · have hk0 : ofK m n k = false := by unfold ofK inn; rw [decide_eq_true h0, decide_eq_false h1]; rfl
        refine Zf1 tok (fun j => bif Nat.beq j 2 then some true else bif Nat.beq j 9 then some false else none) (by rfl) ?_
        conv => whnf
        refine ⟨by rw [decide_eq_true h0], ?_⟩
        conv => whnf
        refine ⟨by rw [decide_eq_false h1]; rfl, ?_⟩
        conv => whnf
        ((repeat' first | (refine Zac tok (by rfl) ?_; conv => whnf) | (refine Zah ?_; conv => whnf) | refine Zag rfl (fun hb => ?_) (fun hb => ?_) | (refine @And.intro (Zaa _ _ _ _) _ ?_ ?_; rotate_left; (conv => whnf); rotate_right)); all_goals (try ((guard_target = Zaa _ _ _ _); refine Zae ?_; (first | refine And.intro (Zbx rfl ?_) ?_ | skip); (all_goals (try simp only [Zaa, kzz, kz11, kz12, maxL, Zab] at *)); all_goals omega)))
        · simp at hb
        clear hb
        refine ⟨k + 1, hkl, by omega, ?_⟩
        show Weak _ _ _ (mkS [(1, iv n), (2, .bp (2, 0, 0) 0), (5, .rs (30, 0, 0) 1 0 (ofN m n (k + 1)).length), (6, iv (k + 1))] [((2, 0, 0), Zan (Zax m)), ((30, 0, 0), .row true 1 (ofN m n (k + 1)).length (fun q => [iv (((ofN m n (k + 1)).getD q 0 : Nat) : Int)]))])
        rw [ofN_no hk0]
        refine Weak.list [((2, 0, 0), .old (2, 0, 0), Zan (Zax m)), ((30, 0, 0), .old (30, 0, 0), .row true 1 (ofN m n k).length (fun q => [iv (((ofN m n k).getD q 0 : Nat) : Int)]))] rfl (by rfl) ?_ (.old rfl (BLe.refl _) (.old rfl (BLe.refl _) .nil))
        ((repeat' first | exact TLes.nil | refine TLes.cons (TLe.eq rfl) ?_ | refine TLes.cons (TLe.int ?_) ?_); (all_goals first | ((try (simp only [Zaa, kzz, kz11, kz12, maxL, Zab] at *)); exact Zal (by omega) (by omega)) | skip))
    · have hk0 : ofK m n k = false := by unfold ofK inn; rw [decide_eq_false h0]; rfl
      refine Zf1 tok (fun j => bif Nat.beq j 2 then some false else bif Nat.beq j 9 then some false else none) (by rfl) ?_
      conv => whnf
      refine ⟨by rw [decide_eq_false h0], ?_⟩
      conv => whnf
      refine ⟨rfl, ?_⟩
      conv => whnf
      ((repeat' first | (refine Zac tok (by rfl) ?_; conv => whnf) | (refine Zah ?_; conv => whnf) | refine Zag rfl (fun hb => ?_) (fun hb => ?_) | (refine @And.intro (Zaa _ _ _ _) _ ?_ ?_; rotate_left; (conv => whnf); rotate_right)); all_goals (try ((guard_target = Zaa _ _ _ _); refine Zae ?_; (first | refine And.intro (Zbx rfl ?_) ?_ | skip); (all_goals (try simp only [Zaa, kzz, kz11, kz12, maxL, Zab] at *)); all_goals omega)))
      · simp at hb
      clear hb
      refine ⟨k + 1, hkl, by omega, ?_⟩
      show Weak _ _ _ (mkS [(1, iv n), (2, .bp (2, 0, 0) 0), (5, .rs (30, 0, 0) 1 0 (ofN m n (k + 1)).length), (6, iv (k + 1))] [((2, 0, 0), Zan (Zax m)), ((30, 0, 0), .row true 1 (ofN m n (k + 1)).length (fun q => [iv (((ofN m n (k + 1)).getD q 0 : Nat) : Int)]))])
      rw [ofN_no hk0]
      refine Weak.list [((2, 0, 0), .old (2, 0, 0), Zan (Zax m)), ((30, 0, 0), .old (30, 0, 0), .row true 1 (ofN m n k).length (fun q => [iv (((ofN m n k).getD q 0 : Nat) : Int)]))] rfl (by rfl) ?_ (.old rfl (BLe.refl _) (.old rfl (BLe.refl _) .nil))
      ((repeat' first | exact TLes.nil | refine TLes.cons (TLe.eq rfl) ?_ | refine TLes.cons (TLe.int ?_) ?_); (all_goals first | ((try (simp only [Zaa, kzz, kz11, kz12, maxL, Zab] at *)); exact Zal (by omega) (by omega)) | skip))
  · have hkl : k = m.funcs.length := by simp only [decide_eq_false_iff_not] at hb; omega
    clear hb
    subst hkl
    (repeat' first | (refine Zac tok (by rfl) ?_; conv => whnf) | (refine Zaj ?_; conv => whnf))
    refine ⟨_, rfl, .rs rfl (Nat.le_refl _) (by unfold ofL; rw [List.length_map]) (fun q hq => ?_)⟩
    unfold ofL
    rw [List.getD_eq_getElem?_getD, List.getD_eq_getElem?_getD, List.getElem?_map, List.getElem?_eq_getElem hq]
    rfl
end Go.Proofs.Ytmanpbgaihdalaa
namespace Go.Proofs.Ytmanpbgaihdalaa
open Go Dv
set_option maxRecDepth 10000
set_option linter.unusedSimpArgs false
theorem count_set_false {l : List Bool} {i : Nat} (hi : i < l.length) (h : l.getD i false = true) : (l.set i false).count true + 1 = l.count true := by
  have e : l[i] = true := by simpa [List.getD_eq_getElem?_getD, hi] using h
  have := List.count_set (a := false) (b := true) (l := l) hi
  rw [this, e]
  simp
  have : 0 < l.count true := List.count_pos_iff.2 (by rw [← e]; exact List.getElem_mem hi)
  omega
theorem count_members : ∀ (O : List Int) (R : List Bool), O.Nodup → (∀ m ∈ O, 0 ≤ m ∧ m < R.length) → (∀ i : Nat, R.getD i false = true ↔ (i : Int) ∈ O) → R.count true = O.length
  | [], R, _, _, h => by
      rw [List.length_nil, List.count_eq_zero]
      intro hc
      obtain ⟨i, hi, e⟩ := List.getElem_of_mem hc
      have := (h i).1 (by rw [Zbh false hi, e])
      cases this
  | a :: O, R, hn, hr, h => by
      have ha := hr a (by simp)
      have hra : R.getD a.toNat false = true := (h a.toNat).2 (by rw [Int.toNat_of_nonneg ha.1]; simp)
      have hc := count_set_false (l := R) (i := a.toNat) (by omega) hra
      rw [List.nodup_cons] at hn
      have ih := count_members O (R.set a.toNat false) hn.2 (fun m hm => by rw [List.length_set]; exact hr m (by simp [hm])) (fun i => by
        rw [Zey]
        by_cases e : a.toNat = i
        · rw [if_pos ⟨e, by omega⟩]
          constructor
          · intro h; cases h
          · intro hm
            have : a = (i : Int) := by omega
            rw [← this] at hm; exact absurd hm hn.1
        · rw [if_neg (fun x => e x.1), h]
          simp only [List.mem_cons]
          constructor
          · rintro (h | h)
            · exact absurd (by omega) e
            · exact h
          · exact .inr)
      rw [List.length_cons, ← hc, ih]
theorem few {n : Nat} {L : List Int} (h : L.Nodup) (hr : ∀ x ∈ L, 0 ≤ x ∧ x < n) : L.length ≤ n := by
  have := count_members L ((List.range n).map fun i : Nat => decide ((i : Int) ∈ L)) h (fun x hx => by have := hr x hx; simp; omega) (fun i => by
    rw [List.getD_eq_getElem?_getD, List.getElem?_map]
    by_cases hi : i < n
    · rw [List.getElem?_range hi]; simp
    · rw [List.getElem?_eq_none (by simpa using hi)]
      simp only [Option.map_none, Option.getD_none]
      constructor
      · intro e; cases e
      · intro hm; have := hr _ hm; omega)
  rw [← this]
  have h2 := List.count_le_length (a := true) (l := (List.range n).map fun i : Nat => decide ((i : Int) ∈ L))
  simpa using h2
theorem c_HasI (l : List Int) (k : Int) : FC Try.prog 71 [ints l, iv k] (.bool (decide (k ∈ l))) := by
  refine Zay tok Try.func71 rfl (by decide +kernel) (Nat.le_of_ble_eq_true rfl) ?_
  refine Zat 0 (fun hl => ?_)
  have hmx : maxL = 4294967296 := rfl
  have hl0 : l.length ≤ maxL := hl.1
  clear hl
  (repeat' first | refine Zad ?_ | (refine Zac tok (by rfl) ?_; conv => whnf) | refine Zaf ?_)
  refine Zas (fun i : Nat => mkS [(0, ints l), (1, iv k), (4, .bool false), (5, iv i)] []) (fun i => i ≤ l.length ∧ ∀ j, j < i → l.getD j 0 ≠ k) (fun i => l.length - i) 0 ⟨Nat.zero_le _, fun j h => absurd h (Nat.not_lt_zero j)⟩ ?_ ?_
  · refine Weak.list [] rfl (by rfl) ?_ .nil
    ((repeat' first | exact TLes.nil | refine TLes.cons (TLe.eq rfl) ?_); skip)
  rintro i ⟨hi, hc⟩
  (repeat' ((fail_if_success (show AWp _ _ _ (Code.region 4 _ _) _ _)); first | refine Zad ?_ | (refine Zac tok (by rfl) ?_; conv => whnf) | refine Zaf ?_ | (refine Zah ?_; conv => whnf) | (refine Zar ?_; conv => whnf) | (refine Zaj ?_; conv => whnf) | refine Zag rfl (fun hb => ?_) (fun hb => ?_)))
  · have hil : i < l.length := by simp only [decide_eq_true_eq] at hb; omega
    clear hb
    ((repeat' first | refine Zad ?_ | (refine Zac tok (by rfl) ?_; conv => whnf) | (refine Zah ?_; conv => whnf) | (refine Zaj ?_; conv => whnf) | refine Zag rfl (fun hb => ?_) (fun hb => ?_) | (refine @And.intro (Zaa _ _ _ _) _ ?_ ?_; rotate_left; (conv => whnf); rotate_right)); all_goals (try ((guard_target = Zaa _ _ _ _); refine Zae ?_; (all_goals (try simp only [Zaa, kzz, kz11, kz12, maxL, Zab] at *)); all_goals omega)))
    · have hq : l.getD i 0 = k := by simpa using hb
      refine ⟨_, rfl, Rel.bool ?_⟩
      symm; rw [decide_eq_true_eq, ← hq, Zbh 0 hil]; exact List.getElem_mem hil
    · have hq : l.getD i 0 ≠ k := by simpa using hb
      refine ⟨i + 1, ⟨hil, fun j hj => ?_⟩, by omega, ?_⟩
      · by_cases e : j = i
        · subst e; exact hq
        · exact hc j (by omega)
      refine Weak.list [] rfl (by rfl) ?_ .nil
      ((repeat' first | exact TLes.nil | refine TLes.cons (TLe.eq rfl) ?_ | refine TLes.cons (TLe.int ?_) ?_); (all_goals first | ((try (simp only [Zaa, kzz, kz11, kz12, maxL, Zab] at *)); exact Zal (by omega) (by omega)) | skip))
  · have hil : i = l.length := by simp only [decide_eq_false_iff_not] at hb; omega
    clear hb
    subst hil
    skip
    refine ⟨_, rfl, Rel.bool ?_⟩
    symm; rw [decide_eq_false_iff_not]
    intro hm
    obtain ⟨j, hj, e⟩ := List.getElem_of_mem hm
    exact hc j hj (by rw [Zbh 0 hj, e])
def addN (o : List Int) (k : Int) : List Int := if k ∈ o then o else o ++ [k]
def Zce (o l : List Int) : List Int := l.foldl addN o
def toGo (m : Za1) : Nat → Nat → List Int → List Int
  | 0, _, o => o
  | f + 1, i, o => if i < o.length then toGo m f (i + 1) (Zce o (ofL m (o.getD i 0))) else o
def toL (m : Za1) (n : Int) : List Int := toGo m (m.funcs.length + 1) 0 (ofL m n)
structure GoodL (m : Za1) (o : List Int) : Prop where
  nd : o.Nodup
  rg : ∀ x ∈ o, 0 ≤ x ∧ x < m.funcs.length
theorem ofL_mem {m : Za1} {n x : Int} (h : x ∈ ofL m n) : 0 ≤ x ∧ x < m.funcs.length := by
  unfold ofL ofN at h
  obtain ⟨k, hk, rfl⟩ := List.mem_map.1 h
  have := (List.mem_filter.1 hk).1
  rw [List.mem_range] at this
  constructor
  · exact Int.natCast_nonneg k
  · exact Int.ofNat_lt.2 this
theorem ofL_good (m : Za1) (n : Int) : GoodL m (ofL m n) := by
  refine ⟨?_, fun x hx => ofL_mem hx⟩
  unfold ofL ofN
  have h1 : List.Pairwise (· < ·) (List.range m.funcs.length) := List.pairwise_lt_range
  have h2 := h1.filter (fun k => ofK m n k)
  refine (List.pairwise_map.2 (h2.imp ?_))
  intro a b hab e
  have := Int.ofNat.inj e
  omega
theorem addN_good {m : Za1} {o : List Int} {k : Int} (h : GoodL m o) (hk : 0 ≤ k ∧ k < m.funcs.length) : GoodL m (addN o k) := by
  unfold addN
  split
  · exact h
  · rename_i hn
    refine ⟨?_, fun x hx => ?_⟩
    · rw [List.nodup_append]
      exact ⟨h.nd, by simp, fun a ha b hb e => by rw [List.mem_singleton] at hb; subst hb; subst e; exact hn ha⟩
    · rcases List.mem_append.1 hx with e | e
      · exact h.rg x e
      · rw [List.mem_singleton] at e; subst e; exact hk
theorem addAll_good {m : Za1} : ∀ {l o : List Int}, GoodL m o → (∀ x ∈ l, 0 ≤ x ∧ x < m.funcs.length) → GoodL m (Zce o l)
  | [], o, h, _ => h
  | k :: l, o, h, hl => addAll_good (l := l) (addN_good h (hl k (by simp))) (fun x hx => hl x (by simp [hx]))
theorem GoodL.le {m : Za1} {o : List Int} (h : GoodL m o) : o.length ≤ m.funcs.length := few h.nd h.rg
theorem addN_len (o : List Int) (k : Int) : o.length ≤ (addN o k).length := by unfold addN; split <;> simp
theorem addAll_len : ∀ (l o : List Int), o.length ≤ (Zce o l).length
  | [], o => Nat.le_refl _
  | k :: l, o => Nat.le_trans (addN_len o k) (addAll_len l (addN o k))
theorem addAll_succ {o l : List Int} {k : Nat} (h : k < l.length) : Zce o (l.take (k + 1)) = addN (Zce o (l.take k)) (l.getD k 0) := by
  unfold Zce; rw [Zcf 0 h, List.foldl_append]; rfl
end Go.Proofs.Ytmanpbgaihdalaa
namespace Go.Proofs.Ytmanpbgaihdalaa
open Go Dv
set_option maxRecDepth 10000
set_option linter.unusedSimpArgs false
theorem toGo_end {m : Za1} {f i : Nat} {o : List Int} (h : ¬ i < o.length) : toGo m f i o = o := by
  cases f with
  | zero => rfl
  | succ f => simp only [toGo]; rw [if_neg h]
theorem toGo_step {m : Za1} {f i : Nat} {o : List Int} (h : i < o.length) (hf : 0 < f) : toGo m f i o = toGo m (f - 1) (i + 1) (Zce o (ofL m (o.getD i 0))) := by
  obtain ⟨g, rfl⟩ : ∃ g, f = g + 1 := ⟨f - 1, by omega⟩
  simp only [toGo, Nat.add_sub_cancel]; rw [if_pos h]
set_option maxHeartbeats 2000000 in
theorem c_To (m : Za1) (n : Int) : FOi 102 [.agg (Zax m), iv n] (toL m n) := by
  refine Zc6 tok Try.func102 rfl (by decide +kernel) (Nat.le_of_ble_eq_true rfl) ?_
  refine Zat 0 (fun hl => ?_)
  have hmx : maxL = 4294967296 := rfl
  have hl0 : m.funcs.length ≤ maxL := hl.1.1
  clear hl
  (repeat' first | refine Zad ?_ | (refine Zac tok (by rfl) ?_; conv => whnf))
  refine .inl ⟨_, _, _, uG (QC.fo (rd := []) (c_Of m n) (Ress.imms rfl) (.inl rfl) rfl), ?_⟩
  conv => whnf
  (repeat' first | refine Zad ?_ | (refine Zac tok (by rfl) ?_; conv => whnf) | refine Zaf ?_)
  refine Zas (fun s : Nat × List Int => mkS [(2, .bp (2, 0, 0) 0), (5, .rs (101, 0, 0) 1 0 (List.length s.2)), (6, iv s.1)] [((2, 0, 0), Zan (Zax m)), ((101, 0, 0), .row true 1 (List.length s.2) (fun q => [iv (List.getD s.2 q 0)]))]) (fun s => GoodL m s.2 ∧ s.1 ≤ s.2.length ∧ toL m n = toGo m (m.funcs.length + 1 - s.1) s.1 s.2) (fun s => m.funcs.length + 1 - s.1) (0, ofL m n) ⟨ofL_good m n, Nat.zero_le _, rfl⟩ ?_ ?_
  · refine Weak.list [((2, 0, 0), .old (2, 0, 0), Zan (Zax m)), ((101, 0, 0), .old (11, 0, 0), .row true 1 (List.length (ofL m n)) (fun q => [iv (List.getD (ofL m n) q 0)]))] rfl (by rfl) ?_ (.old rfl (BLe.refl _) (.old rfl (BLe.refl _) .nil))
    ((repeat' first | exact TLes.nil | refine TLes.cons (TLe.eq rfl) ?_); skip)
  rintro ⟨i, o⟩ ⟨hg, hi, he⟩
  simp only at hg hi he ⊢
  have hol := hg.le
  (repeat' ((fail_if_success (show AWp _ _ _ (Code.region 5 _ _) _ _)); first | refine Zad ?_ | (refine Zac tok (by rfl) ?_; conv => whnf) | refine Zaf ?_ | (refine Zah ?_; conv => whnf) | (refine Zar ?_; conv => whnf) | (refine Zaj ?_; conv => whnf) | refine Zag rfl (fun hb => ?_) (fun hb => ?_)))
  · have hil : i < o.length := by simp only [decide_eq_true_eq] at hb; omega
    clear hb
    have hst := toGo_step (m := m) (f := m.funcs.length + 1 - i) hil (by omega)
    have hgen : ∃ x, o.getD i 0 = x := ⟨_, rfl⟩
    obtain ⟨x, hx⟩ := hgen
    rw [hx] at hst
    have hcall : ∀ y, y = x → FOi 133 [.agg (Zax m), iv y] (ofL m x) := fun y e => by rw [e]; exact c_Of m x
    have hmem : ∀ z ∈ ofL m x, 0 ≤ z ∧ z < m.funcs.length := fun z hz => ofL_mem hz
    have hll := (ofL_good m x).le
    have hgen : ∃ l, ofL m x = l := ⟨_, rfl⟩
    obtain ⟨l, hl⟩ := hgen
    rw [hl] at hst hcall hmem hll
    ((repeat' first | (refine Za3 tok mix (by rfl) ?_; conv => whnf) | (refine @And.intro (Zaa _ _ _ _) _ ?_ ?_; rotate_left; (conv => whnf); rotate_right)); all_goals (try ((guard_target = Zaa _ _ _ _); refine Zae ?_; (all_goals (try simp only [Zaa, kzz, kz11, kz12, maxL, Zab] at *)); all_goals omega)))
    refine .inl ⟨_, _, _, uG (QC.fo (rd := []) (hcall (o.getD (0 + (i : Int).toNat) 0) (by rw [Nat.zero_add, Int.toNat_natCast, hx])) (Ress.imms rfl) (.inl rfl) rfl), ?_⟩
    conv => whnf
    (repeat' first | refine Zad ?_ | (refine Zac tok (by rfl) ?_; conv => whnf) | refine Zaf ?_)
    refine Zas (fun k : Nat => mkS [(2, .bp (2, 0, 0) 0), (5, .rs (101, 0, 0) 1 0 (List.length (Zce o (l.take k)))), (6, iv i), (7, .rs (23, 0, 0) 1 0 l.length), (8, iv k)] [((2, 0, 0), Zan (Zax m)), ((101, 0, 0), .row true 1 (List.length (Zce o (l.take k))) (fun q => [iv (List.getD (Zce o (l.take k)) q 0)])), ((23, 0, 0), .row true 1 l.length (fun q => [iv (l.getD q 0)]))]) (fun k => k ≤ l.length) (fun k => l.length - k) 0 (Nat.zero_le _) ?_ ?_
    · refine Weak.list [((2, 0, 0), .old (2, 0, 0), Zan (Zax m)), ((101, 0, 0), .old (101, 0, 0), .row true 1 (List.length (Zce o (l.take 0))) (fun q => [iv (List.getD (Zce o (l.take 0)) q 0)])), ((23, 0, 0), .old (23, 0, 0), .row true 1 l.length (fun q => [iv (l.getD q 0)]))] rfl (by rfl) ?_ (.old rfl (BLe.refl _) (.old rfl (BLe.refl _) (.old rfl (BLe.refl _) .nil)))
      ((repeat' first | exact TLes.nil | refine TLes.cons (TLe.eq rfl) ?_); skip)
    intro k hk
    have hgp : GoodL m (Zce o (l.take k)) := addAll_good hg (fun z hz => hmem z (List.mem_of_mem_take hz))
    have hpl := hgp.le
    (repeat' ((fail_if_success (show AWp _ _ _ (Code.region 9 _ _) _ _)); (fail_if_success (show AWp _ _ _ (Code.region 4 _ _) _ _)); first | refine Zad ?_ | (refine Zac tok (by rfl) ?_; conv => whnf) | refine Zaf ?_ | (refine Zah ?_; conv => whnf) | (refine Zar ?_; conv => whnf) | refine Zag rfl (fun hb => ?_) (fun hb => ?_)))
    · have hkl : k < l.length := by simp only [decide_eq_true_eq] at hb; omega
      clear hb
      have hsc := addAll_succ (o := o) hkl
      have hgen : ∃ p, Zce o (l.take k) = p := ⟨_, rfl⟩
      obtain ⟨p, hp⟩ := hgen
      rw [hp] at hsc hpl
      simp only [hp]
      have hgen : ∃ z, l.getD k 0 = z := ⟨_, rfl⟩
      obtain ⟨z, hz⟩ := hgen
      rw [hz] at hsc
      have hz2 : l.getD (0 + (k : Int).toNat) 0 = z := by rw [Nat.zero_add, Int.toNat_natCast, hz]
      have hhas : ∀ y, y = z → FC Try.prog 71 [ints p, iv y] (.bool (decide (z ∈ p))) := fun y e => by rw [e]; exact c_HasI p z
      ((repeat' first | (refine Zac tok (by rfl) ?_; conv => whnf) | (refine @And.intro (Zaa _ _ _ _) _ ?_ ?_; rotate_left; (conv => whnf); rotate_right)); all_goals (try ((guard_target = Zaa _ _ _ _); refine Zae ?_; (all_goals (try simp only [Zaa, kzz, kz11, kz12, maxL, Zab] at *)); all_goals omega)))
      refine .inl ⟨_, _, _, uG (QC.sc (rd := [(101, 0, 0)]) (hhas (l.getD (0 + (k : Int).toNat) 0) hz2) (.cons (.row rfl (.head _) rfl rfl (fun _ _ => rfl)) (.cons (.imm rfl) .nil)) rfl), ?_⟩
      conv => whnf
      skip
      refine Zag rfl (fun hb => ?_) (fun hb => ?_)
      · have hn : ¬ z ∈ p := by simpa using hb
        clear hb
        have hzm : 0 ≤ z ∧ z < m.funcs.length := hmem z (by rw [← hz, Zbh 0 hkl]; exact List.getElem_mem hkl)
        have hstrict : p.length + 1 ≤ m.funcs.length := by
          have := (addN_good hgp hzm).le
          rw [hp] at this
          unfold addN at this
          rw [if_neg hn, List.length_append] at this
          exact this
        ((repeat' first | (refine Zac tok (by rfl) ?_; conv => whnf) | (refine @And.intro (Zaa _ _ _ _) _ ?_ ?_; rotate_left; (conv => whnf); rotate_right)); all_goals (try ((guard_target = Zaa _ _ _ _); refine Zae ?_; (first | refine And.intro (Zbx rfl ?_) ?_ | skip); (all_goals (try simp only [Zaa, kzz, kz11, kz12, maxL, Zab] at *)); all_goals omega)))
        refine ⟨k + 1, hkl, by omega, ?_⟩
        show Weak _ _ _ (mkS [(2, .bp (2, 0, 0) 0), (5, .rs (101, 0, 0) 1 0 (List.length (Zce o (l.take (k + 1))))), (6, iv i), (7, .rs (23, 0, 0) 1 0 l.length), (8, iv (k + 1))] [((2, 0, 0), Zan (Zax m)), ((101, 0, 0), .row true 1 (List.length (Zce o (l.take (k + 1)))) (fun q => [iv (List.getD (Zce o (l.take (k + 1))) q 0)])), ((23, 0, 0), .row true 1 l.length (fun q => [iv (l.getD q 0)]))])
        rw [hsc]; unfold addN; rw [if_neg hn]
        refine Weak.list [((2, 0, 0), .old (2, 0, 0), Zan (Zax m)), ((101, 0, 0), .old (43, 0, 0), .row true 1 (List.length (p ++ [z])) (fun q => [iv (List.getD (p ++ [z]) q 0)])), ((23, 0, 0), .old (23, 0, 0), .row true 1 l.length (fun q => [iv (l.getD q 0)]))] rfl (by rfl) ?_ (.old rfl (BLe.refl _) (.old rfl (BLe.rowW (Nat.le_of_eq (by simp)) (fun q hq => Wks.of ?_)) (.old rfl (BLe.refl _) .nil)))
        · ((repeat' first | exact TLes.nil | refine TLes.cons (TLe.eq rfl) ?_ | refine TLes.cons (TLe.rsL rfl ?_) ?_ | refine TLes.cons (TLe.int ?_) ?_); (all_goals first | ((try (simp only [Zaa, kzz, kz11, kz12, maxL, Zab] at *)); exact Zal (by omega) (by omega)) | skip))
          all_goals (try simp)
        · rw [List.length_append] at hq
          refine app_fnW (sz := 1) (f := fun q => [iv (p.getD q 0)]) (g := fun q => [iv ((p ++ [z]).getD q 0)]) (c := [iv (l.getD (0 + (k : Int).toNat) 0)]) (fun i hi => ?_) ?_ rfl hq
          · simp only [List.getD_eq_getElem?_getD, List.getElem?_append_left hi]
          · rw [hz2]; simp only [List.getD_eq_getElem?_getD, List.getElem?_append_right (Nat.le_refl _), Nat.sub_self]; rfl
      · have hn : z ∈ p := by simpa using hb
        clear hb
        (repeat' first | (refine Zac tok (by rfl) ?_; conv => whnf) | (refine Zah ?_; conv => whnf))
        refine ⟨k + 1, hkl, by omega, ?_⟩
        show Weak _ _ _ (mkS [(2, .bp (2, 0, 0) 0), (5, .rs (101, 0, 0) 1 0 (List.length (Zce o (l.take (k + 1))))), (6, iv i), (7, .rs (23, 0, 0) 1 0 l.length), (8, iv (k + 1))] [((2, 0, 0), Zan (Zax m)), ((101, 0, 0), .row true 1 (List.length (Zce o (l.take (k + 1)))) (fun q => [iv (List.getD (Zce o (l.take (k + 1))) q 0)])), ((23, 0, 0), .row true 1 l.length (fun q => [iv (l.getD q 0)]))])
        rw [hsc]; unfold addN; rw [if_pos hn]
        refine Weak.list [((2, 0, 0), .old (2, 0, 0), Zan (Zax m)), ((101, 0, 0), .old (101, 0, 0), .row true 1 (List.length p) (fun q => [iv (List.getD p q 0)])), ((23, 0, 0), .old (23, 0, 0), .row true 1 l.length (fun q => [iv (l.getD q 0)]))] rfl (by rfl) ?_ (.old rfl (BLe.refl _) (.old rfl (BLe.refl _) (.old rfl (BLe.refl _) .nil)))
        ((repeat' first | exact TLes.nil | refine TLes.cons (TLe.eq rfl) ?_ | refine TLes.cons (TLe.int ?_) ?_); (all_goals first | ((try (simp only [Zaa, kzz, kz11, kz12, maxL, Zab] at *)); exact Zal (by omega) (by omega)) | skip))
    · have hkl : k = l.length := by simp only [decide_eq_false_iff_not] at hb; omega
      clear hb
      subst hkl
      rw [List.take_length] at hgp
      (repeat' (refine Zac tok (by rfl) ?_; conv => whnf))
      refine ⟨(i + 1, Zce o l), ⟨hgp, Nat.le_trans hil (addAll_len l o), by rw [he, hst, Nat.sub_sub]⟩, by simp only; omega, ?_⟩
      rw [List.take_length]
      refine Weak.list [((2, 0, 0), .old (2, 0, 0), Zan (Zax m)), ((101, 0, 0), .old (101, 0, 0), .row true 1 (List.length (Zce o l)) (fun q => [iv (List.getD (Zce o l) q 0)]))] rfl (by rfl) ?_ (.old rfl (BLe.refl _) (.old rfl (BLe.refl _) .nil))
      ((repeat' first | exact TLes.nil | refine TLes.cons (TLe.eq rfl) ?_ | refine TLes.cons (TLe.int ?_) ?_); (all_goals first | ((try (simp only [Zaa, kzz, kz11, kz12, maxL, Zab] at *)); exact Zal (by omega) (by omega)) | skip))
  · have hil : ¬ i < o.length := by simp only [decide_eq_false_iff_not] at hb; omega
    clear hb
    rw [he, toGo_end hil]
    skip
    exact ⟨_, rfl, .rs rfl (Nat.le_refl _) rfl (fun _ _ => rfl)⟩
end Go.Proofs.Ytmanpbgaihdalaa
