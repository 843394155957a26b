/- The program's dead.Func and dead.Module compute the document's answer, for every module and function within the statement's guards. -/
import Derived.Test.YtmanpbgaihdalaaDvc3
import Derived.Test.YtmanpbgaihdalaaLawDeadRight2
import Derived.Test.YtmanpbgaihdalaaRows
import Derived.WalkKit
import Derived.ProofKit
import Derived.OpenShut
import Derived.JoinedCond
set_option linter.unusedVariables false
set_option linter.unusedSimpArgs false
set_option linter.unnecessarySimpa false
namespace Go.Proofs.Ytmanpbgaihdalaa
open Go Dv
set_option maxRecDepth 10000
set_option linter.unusedSimpArgs false
noncomputable def clrM (m : Za1) : Za1 := ⟨m.funcs.map Zbm⟩
noncomputable def toM (m : Za1) : List Int := toL (clrM m) 0
noncomputable def Zem (m : Za1) : List Bool := (List.range m.funcs.length).map fun n : Nat => bif decide ((n : Int) = 0) then true else decide ((n : Int) ∈ toM m)
def renI (S : List Bool) (x : Ins) : Ins := if x.op = 11 then { x with f := numB S x.f.toNat } else x
def renE (S : List Bool) (e : End) : End := if e.kind = 4 then { e with f := numB S e.f.toNat } else e
def renC (S : List Bool) (b : Zbk) : Zbk := { b with ins := b.ins.map (renI S), fin := renE S b.fin }
def renF (S : List Bool) (f : Func) : Func := { f with blocks := f.blocks.map (renC S) }
noncomputable def ref13M (m : Za1) : Za1 := ⟨(Za7 (Zem m) m.funcs.length).map fun n => renF (Zem m) ((clrM m).funcs.getD n default)⟩
theorem clrM_len (m : Za1) : (clrM m).funcs.length = m.funcs.length := by simp [clrM]
theorem clrM_at {m : Za1} {k : Nat} (h : k < m.funcs.length) : (clrM m).funcs.getD k default = Zbm (m.funcs.getD k default) := by
  unfold clrM
  simp only
  rw [List.getD_eq_getElem?_getD, List.getElem?_map, List.getElem?_eq_getElem h, Zbh default h]; rfl
theorem stayL_len (m : Za1) : (Zem m).length = m.funcs.length := by simp [Zem]
theorem stayL_at {m : Za1} {k : Nat} (h : k < m.funcs.length) : (Zem m).getD k false = bif decide ((k : Int) = 0) then true else decide ((k : Int) ∈ toM m) := by
  unfold Zem; rw [List.getD_eq_getElem?_getD, List.getElem?_map, List.getElem?_range h]; rfl
theorem GVs_app2 {src : Dv.Id → Option Dv.Id} {h h' : Zaq} {k q : Nat} {f g : Nat → List AV} {ys : List AV} {K : List AV → List AV} (hq : q < k + 1) (h1 : q < k → GVs src h h' (K (f q)) ys) (h2 : q = k → GVs src h h' (K (g 0)) ys) : GVs src h h' (K (appR k f g q)) ys := by
  by_cases e : q < k
  · have : appR k f g q = f q := by unfold appR; rw [show Nat.blt q k = true from by rw [Nat.blt_eq]; exact e]; rfl
    rw [this]; exact h1 e
  · have e2 : q = k := by omega
    subst e2
    have : appR q f g q = g 0 := by unfold appR; rw [show Nat.blt q q = false from by rw [Bool.eq_false_iff]; intro h; rw [Nat.blt_eq] at h; omega, Nat.sub_self]; rfl
    rw [this]; exact h2 rfl
def outF (S : List Bool) (G : List Func) (i : Nat) : List Func := (Za7 S i).map fun n => renF S (G.getD n default)
theorem outF_yes {S : List Bool} {G : List Func} {k : Nat} (h : S.getD k false = true) : outF S G (k + 1) = outF S G k ++ [renF S (G.getD k default)] := by
  unfold outF; rw [Zfa h, List.map_append]; rfl
theorem outF_no {S : List Bool} {G : List Func} {k : Nat} (h : S.getD k false = false) : outF S G (k + 1) = outF S G k := by
  unfold outF; rw [Zef h]
theorem outF_le (S : List Bool) (G : List Func) (k : Nat) : (outF S G k).length ≤ k := by
  unfold outF Za7
  rw [List.length_map]
  have := List.length_filter_le (fun n => S.getD n false) (List.range k)
  rw [List.length_range] at this
  exact this
theorem ren_ins (R : List Bool) (b : Zbk) : (renN R b).ins = b.ins ∧ (renN R b).fin.kind = b.fin.kind ∧ (renN R b).fin.f = b.fin.f := by
  unfold renN
  have h1 : ∀ c : Zbk, (ren1 R c).ins = c.ins ∧ (ren1 R c).fin.kind = c.fin.kind ∧ (ren1 R c).fin.f = c.fin.f := fun c => by unfold ren1; split <;> exact ⟨rfl, rfl, rfl⟩
  have h2 : ∀ c : Zbk, (ren2 R c).ins = c.ins ∧ (ren2 R c).fin.kind = c.fin.kind ∧ (ren2 R c).fin.f = c.fin.f := fun c => by unfold ren2; split <;> exact ⟨rfl, rfl, rfl⟩
  have h3 : ∀ c : Zbk, (ren3 R c).ins = c.ins ∧ (ren3 R c).fin.kind = c.fin.kind ∧ (ren3 R c).fin.f = c.fin.f := fun c => by unfold ren3; split <;> exact ⟨rfl, rfl, rfl⟩
  obtain ⟨a1, a2, a3⟩ := h1 b
  obtain ⟨b1, b2, b3⟩ := h2 (ren1 R b)
  obtain ⟨c1, c2, c3⟩ := h3 (ren2 R (ren1 R b))
  exact ⟨by rw [c1, b1, a1], by rw [c2, b2, a2], by rw [c3, b3, a3]⟩
theorem ref13_from {f : Func} {i : Nat} (hi : i < (Zbm f).blocks.length) : ∃ n, n < f.blocks.length ∧ ((Zbm f).blocks.getD i default).ins = (f.blocks.getD n default).ins ∧ ((Zbm f).blocks.getD i default).fin.kind = (f.blocks.getD n default).fin.kind ∧ ((Zbm f).blocks.getD i default).fin.f = (f.blocks.getD n default).fin.f := by
  unfold Zbm at hi ⊢
  split
  · rename_i hc
    rw [if_pos hc] at hi
    simp only at hi ⊢
    rw [Zbh default hi]
    have hm := List.getElem_mem hi
    unfold Zbg at hm
    obtain ⟨n, hn, e⟩ := List.mem_map.1 hm
    have hn2 := (List.mem_filter.1 hn).1
    rw [List.mem_range] at hn2
    refine ⟨n, hn2, ?_⟩
    have e2 : (Zbg f (Fl.Zcb f) f.blocks.length)[i] = renN (Fl.Zcb f) (f.blocks.getD n default) := e.symm
    rw [e2]
    exact ren_ins _ _
  · rename_i hc
    rw [if_neg hc] at hi
    exact ⟨i, hi, rfl, rfl, rfl⟩
set_option maxHeartbeats 4000000 in
theorem c_r13Module (m : Za1) (hr : Zc0 m = true) : FC Try.prog 61 [.agg (Zax m)] (.agg (Zax (ref13M m))) := by
  refine Zay tok Try.func61 rfl (by decide +kernel) (Nat.le_of_ble_eq_true rfl) ?_
  refine Zat 0 (fun hl => ?_)
  have hmx : maxL = 4294967296 := rfl
  have hl0 : m.funcs.length ≤ maxL := hl.1.1
  clear hl
  (repeat' first | refine Zad ?_ | (refine Zac tok (by rfl) ?_; conv => whnf) | refine Zaf ?_)
  refine Zas (fun k : Nat => mkS [(1, .bp (1, 0, 0) 0), (2, .bp (2, 0, 0) 0), (3, .bp (3, 0, 0) 0), (4, iv k)] [((1, 0, 0), Zan (Zax m)), ((2, 0, 0), Zan [.nsl]), ((3, 0, 0), .row false 1 1 (fun _ => [.rs (101, 0, 0) 3 0 k])), ((101, 0, 0), .row true 3 k (fun q => Zai ((clrM m).funcs.getD q default)))]) (fun k => k ≤ m.funcs.length) (fun k => m.funcs.length - k) 0 (Nat.zero_le _) ?_ ?_
  · refine Weak.list [((1, 0, 0), .old (1, 0, 0), Zan (Zax m)), ((2, 0, 0), .old (2, 0, 0), Zan [.nsl]), ((3, 0, 0), .old (3, 0, 0), .row false 1 1 (fun _ => [.rs (101, 0, 0) 3 0 0])), ((101, 0, 0), .nil, .row true 3 0 (fun q => Zai ((clrM m).funcs.getD q default)))] rfl (by rfl) ?_ (.old rfl (BLe.refl _) (.old rfl (BLe.refl _) (.oldR rfl (BLeR.cells rfl (fun x hx => .cons (.nil rfl) .nil)) (.new .nil))))
    ((repeat' first | exact TLes.nil | refine TLes.cons (TLe.eq rfl) ?_); skip)
  intro k hk
  (repeat' ((fail_if_success (show AWp _ _ _ (Code.region 5 _ _) _ _)); (fail_if_success (show AWp _ _ _ (Code.region 6 _ _) _ _)); first | refine Zad ?_ | (refine Zac tok (by rfl) ?_; conv => whnf) | refine Zaf ?_ | (refine Zah ?_; conv => whnf) | (refine Zar ?_; conv => whnf) | refine Zag rfl (fun hb => ?_) (fun hb => ?_)))
  · have hkl : k < m.funcs.length := by simp only [decide_eq_true_eq] at hb; omega
    clear hb
    have hca := clrM_at hkl
    have hcall : ∀ g, g = m.funcs.getD k default → FC Try.prog 60 [.agg (Zai g)] (.agg (Zai ((clrM m).funcs.getD k default))) := fun g e => by rw [hca, ← e]; exact c_r13Func g
    ((repeat' first | (refine Za3 tok mix (by rfl) ?_; conv => whnf) | (refine @And.intro (Zaa _ _ _ _) _ ?_ ?_; rotate_left; (conv => whnf); rotate_right)); all_goals (try ((guard_target = Zaa _ _ _ _); refine Zae ?_; (all_goals (try simp only [Zaa, kzz, kz11, kz12, maxL, Zab] at *)); all_goals omega)))
    refine .inl ⟨_, _, _, uG (QC.fc (hcall (m.funcs.getD (k : Int).toNat default) (by rw [Int.toNat_natCast])) rfl), ?_⟩
    conv => whnf
    ((repeat' first | (refine Zac tok (by rfl) ?_; conv => whnf) | (refine @And.intro (Zaa _ _ _ _) _ ?_ ?_; rotate_left; (conv => whnf); rotate_right)); all_goals (try ((guard_target = Zaa _ _ _ _); refine Zae ?_; (first | refine And.intro (Zbx rfl ?_) ?_ | skip); (all_goals (try simp only [Zaa, kzz, kz11, kz12, maxL, Zab] at *)); all_goals omega)))
    refine ⟨k + 1, hkl, by omega, ?_⟩
    refine Weak.list [((1, 0, 0), .old (1, 0, 0), Zan (Zax m)), ((2, 0, 0), .old (2, 0, 0), Zan [.nsl]), ((3, 0, 0), .old (3, 0, 0), .row false 1 1 (fun _ => [.rs (101, 0, 0) 3 0 (k + 1)])), ((101, 0, 0), .old (31, 0, 0), .row true 3 (k + 1) (fun q => Zai ((clrM m).funcs.getD q default)))] rfl (by rfl) ?_ (.old rfl (BLe.refl _) (.old rfl (BLe.refl _) (.old rfl (BLe.rowO rfl) (.old rfl (BLe.rowW ?_ (fun z hz => Wks.of ?_)) .nil))))
    · ((repeat' first | exact TLes.nil | refine TLes.cons (TLe.eq rfl) ?_ | refine TLes.cons (TLe.int ?_) ?_); (all_goals first | ((try (simp only [Zaa, kzz, kz11, kz12, maxL, Zab] at *)); exact Zal (by omega) (by omega)) | skip))
    · exact Nat.le_refl _
    · exact app_fnW (sz := 3) (f := fun q => Zai ((clrM m).funcs.getD q default)) (g := fun q => Zai ((clrM m).funcs.getD q default)) (c := Zai ((clrM m).funcs.getD k default)) (fun _ _ => rfl) rfl rfl hz
  · have hkl : k = m.funcs.length := by simp only [decide_eq_false_iff_not] at hb; omega
    clear hb
    subst hkl
    have hcl := clrM_len m
    have hto : FOi 102 [.agg (Zax (clrM m)), iv 0] (toM m) := c_To (clrM m) 0
    have hsl := stayL_len m
    have hsa := fun k h => stayL_at (m := m) (k := k) h
    have hgen : ∃ to, toM m = to := ⟨_, rfl⟩
    obtain ⟨to, htm⟩ := hgen
    rw [htm] at hto
    simp only [htm] at hsa
    have hgen : ∃ S, Zem m = S := ⟨_, rfl⟩
    obtain ⟨S, hS⟩ := hgen
    simp only [hS] at hsl hsa
    (repeat' (refine Zac tok (by rfl) ?_; conv => whnf))
    refine .inl ⟨_, _, _, uG (QC.fo (rd := [(101, 0, 0)]) hto (.cons (.agg (.cons (.row rfl (.head _) rfl hcl.symm (fun _ _ => rfl)) .nil)) (.cons (.imm rfl) .nil)) (.inr (fun _ _ => rfl)) rfl), ?_⟩
    conv => whnf
    ((repeat' first | refine Zad ?_ | (refine Zac tok (by rfl) ?_; conv => whnf) | refine Zaf ?_ | (refine @And.intro (Zaa _ _ _ _) _ ?_ ?_; rotate_left; (conv => whnf); rotate_right)); all_goals (try ((guard_target = Zaa _ _ _ _); refine Zae ?_; (all_goals (try simp only [Zaa, kzz, kz11, kz12, maxL, Zab] at *)); all_goals omega)))
    refine Zas (fun k : Nat => mkS [(2, .bp (2, 0, 0) 0), (3, .bp (3, 0, 0) 0), (5, .rs (34, 0, 0) 1 0 to.length), (6, .rs (38, 0, 0) 1 0 m.funcs.length), (7, iv k)] [((2, 0, 0), Zan [.nsl]), ((34, 0, 0), .row true 1 to.length (fun q => [iv (to.getD q 0)])), ((3, 0, 0), .row false 1 1 (fun _ => [.rs (101, 0, 0) 3 0 m.funcs.length])), ((101, 0, 0), .row true 3 m.funcs.length (fun q => Zai ((clrM m).funcs.getD q default))), ((38, 0, 0), .row true 1 m.funcs.length (fun q => [.bool (bif Nat.blt q k then List.getD S q false else false)]))]) (fun k => k ≤ m.funcs.length) (fun k => m.funcs.length - k) 0 (Nat.zero_le _) ?_ ?_
    · refine Weak.list [((2, 0, 0), .old (2, 0, 0), Zan [.nsl]), ((34, 0, 0), .old (34, 0, 0), .row true 1 to.length (fun q => [iv (to.getD q 0)])), ((3, 0, 0), .old (3, 0, 0), .row false 1 1 (fun _ => [.rs (101, 0, 0) 3 0 m.funcs.length])), ((101, 0, 0), .old (101, 0, 0), .row true 3 m.funcs.length (fun q => Zai ((clrM m).funcs.getD q default))), ((38, 0, 0), .old (38, 0, 0), .row true 1 m.funcs.length (fun q => [.bool (bif Nat.blt q 0 then List.getD S q false else false)]))] rfl (by rfl) ?_ (.old rfl (BLe.refl _) (.old rfl (BLe.refl _) (.old rfl (BLe.rowO rfl) (.old rfl (BLe.refl _) (.old rfl (BLe.rowW (Nat.le_refl _) (fun z hz => Wks.of rfl)) .nil)))))
      ((repeat' first | exact TLes.nil | refine TLes.cons (TLe.eq rfl) ?_); skip)
    intro k hk
    (repeat' ((fail_if_success (show AWp _ _ _ (Code.region 11 _ _) _ _)); (fail_if_success (show AWp _ _ _ (Code.region 12 _ _) _ _)); first | refine Zad ?_ | (refine Zac tok (by rfl) ?_; conv => whnf) | refine Zaf ?_ | (refine Zah ?_; conv => whnf) | (refine Zar ?_; conv => whnf) | refine Zag rfl (fun hb => ?_) (fun hb => ?_)))
    · have hkl : k < m.funcs.length := by simp only [decide_eq_true_eq] at hb; omega
      clear hb
      have hst := hsa k hkl
      have fin : ∀ v : Bool, v = S.getD k false → ∀ z, z < m.funcs.length → updR (fun q => [AV.bool (bif Nat.blt q k then S.getD q false else false)]) (0 + (k : Int).toNat) [.bool v] z = [.bool (bif Nat.blt z (k + 1) then S.getD z false else false)] := fun v hv z hz => by
        rw [Nat.zero_add, Int.toNat_natCast]
        by_cases e : k = z
        · subst e
          refine updR_hit.trans ?_
          rw [show Nat.blt k (k + 1) = true from by rw [Nat.blt_eq]; omega, hv]; rfl
        · refine (updR_miss e).trans ?_
          have : Nat.blt z k = Nat.blt z (k + 1) := by
            rw [Bool.eq_iff_iff, Nat.blt_eq, Nat.blt_eq]; omega
          rw [this]
      by_cases h0 : k = 0
      · refine Zf1 tok (fun j => bif Nat.beq j 4 then some true else none) (by rfl) ?_
        conv => whnf
        refine ⟨by rw [decide_eq_true (by omega)], ?_⟩
        conv => whnf
        have hv : true = S.getD k false := by rw [hst, decide_eq_true (by omega)]; rfl
        ((repeat' first | (refine Zac tok (by rfl) ?_; conv => whnf) | (refine @And.intro (Zaa _ _ _ _) _ ?_ ?_; rotate_left; (conv => whnf); rotate_right)); all_goals (try ((guard_target = Zaa _ _ _ _); refine Zae ?_; (all_goals (try simp only [Zaa, kzz, kz11, kz12, maxL, Zab] at *)); all_goals omega)))
        refine ⟨k + 1, hkl, by omega, ?_⟩
        refine Weak.list [((2, 0, 0), .old (2, 0, 0), Zan [.nsl]), ((34, 0, 0), .old (34, 0, 0), .row true 1 to.length (fun q => [iv (to.getD q 0)])), ((3, 0, 0), .old (3, 0, 0), .row false 1 1 (fun _ => [.rs (101, 0, 0) 3 0 m.funcs.length])), ((101, 0, 0), .old (101, 0, 0), .row true 3 m.funcs.length (fun q => Zai ((clrM m).funcs.getD q default))), ((38, 0, 0), .old (38, 0, 0), .row true 1 m.funcs.length (fun q => [.bool (bif Nat.blt q (k + 1) then List.getD S q false else false)]))] rfl (by rfl) ?_ (.old rfl (BLe.refl _) (.old rfl (BLe.refl _) (.old rfl (BLe.rowO rfl) (.old rfl (BLe.refl _) (.old rfl (BLe.rowW (Nat.le_refl _) (fun z hz => Wks.of (fin true hv z hz))) .nil)))))
        ((repeat' first | exact TLes.nil | refine TLes.cons (TLe.eq rfl) ?_ | refine TLes.cons (TLe.int ?_) ?_); (all_goals first | ((try (simp only [Zaa, kzz, kz11, kz12, maxL, Zab] at *)); exact Zal (by omega) (by omega)) | skip))
      · refine Zf1 tok (fun j => bif Nat.beq j 4 then some false else none) (by rfl) ?_
        conv => whnf
        refine ⟨by rw [decide_eq_false (by omega)], ?_⟩
        conv => whnf
        have hv : decide ((k : Int) ∈ to) = S.getD k false := by rw [hst, show decide ((k : Int) = 0) = false from decide_eq_false (by omega)]; rfl
        refine .inl ⟨_, _, _, uG (QC.sc (rd := [(34, 0, 0)]) (c_HasI to k) (.cons (.row rfl (.head _) rfl rfl (fun _ _ => rfl)) (.cons (.imm rfl) .nil)) rfl), ?_⟩
        conv => whnf
        ((repeat' first | (refine Zac tok (by rfl) ?_; conv => whnf) | (refine @And.intro (Zaa _ _ _ _) _ ?_ ?_; rotate_left; (conv => whnf); rotate_right)); all_goals (try ((guard_target = Zaa _ _ _ _); refine Zae ?_; (all_goals (try simp only [Zaa, kzz, kz11, kz12, maxL, Zab] at *)); all_goals omega)))
        refine ⟨k + 1, hkl, by omega, ?_⟩
        refine Weak.list [((2, 0, 0), .old (2, 0, 0), Zan [.nsl]), ((34, 0, 0), .old (34, 0, 0), .row true 1 to.length (fun q => [iv (to.getD q 0)])), ((3, 0, 0), .old (3, 0, 0), .row false 1 1 (fun _ => [.rs (101, 0, 0) 3 0 m.funcs.length])), ((101, 0, 0), .old (101, 0, 0), .row true 3 m.funcs.length (fun q => Zai ((clrM m).funcs.getD q default))), ((38, 0, 0), .old (38, 0, 0), .row true 1 m.funcs.length (fun q => [.bool (bif Nat.blt q (k + 1) then List.getD S q false else false)]))] rfl (by rfl) ?_ (.old rfl (BLe.refl _) (.old rfl (BLe.refl _) (.old rfl (BLe.rowO rfl) (.old rfl (BLe.refl _) (.old rfl (BLe.rowW (Nat.le_refl _) (fun z hz => Wks.of (fin _ hv z hz))) .nil)))))
        ((repeat' first | exact TLes.nil | refine TLes.cons (TLe.eq rfl) ?_ | refine TLes.cons (TLe.int ?_) ?_); (all_goals first | ((try (simp only [Zaa, kzz, kz11, kz12, maxL, Zab] at *)); exact Zal (by omega) (by omega)) | skip))
    · have hkl : k = m.funcs.length := by simp only [decide_eq_false_iff_not] at hb; omega
      clear hb
      subst hkl
      have hres : ref13M m = ⟨outF S (clrM m).funcs m.funcs.length⟩ := by unfold ref13M outF; rw [hS]
      rw [hres]
      (repeat' first | refine Zad ?_ | (refine Zac tok (by rfl) ?_; conv => whnf) | refine Zaf ?_)
      refine Zas (fun i : Nat => mkS [(2, .bp (2, 0, 0) 0), (3, .bp (3, 0, 0) 0), (6, .rs (38, 0, 0) 1 0 m.funcs.length), (8, .bp (8, 0, 0) 0), (9, iv i)] [((2, 0, 0), Zan [.nsl]), ((3, 0, 0), .row false 1 1 (fun _ => [.rs (101, 0, 0) 3 0 m.funcs.length])), ((101, 0, 0), .row true 3 m.funcs.length (fun q => Zai ((clrM m).funcs.getD q default))), ((38, 0, 0), .row true 1 m.funcs.length (fun q => [.bool (List.getD S q false)])), ((8, 0, 0), .row false 1 1 (fun _ => [.rs (102, 0, 0) 3 0 (outF S (clrM m).funcs i).length])), ((102, 0, 0), .row true 3 (outF S (clrM m).funcs i).length (fun q => Zai ((outF S (clrM m).funcs i).getD q default)))]) (fun i => i ≤ m.funcs.length) (fun i => m.funcs.length - i) 0 (Nat.zero_le _) ?_ ?_
      · refine Weak.list [((2, 0, 0), .old (2, 0, 0), Zan [.nsl]), ((3, 0, 0), .old (3, 0, 0), .row false 1 1 (fun _ => [.rs (101, 0, 0) 3 0 m.funcs.length])), ((101, 0, 0), .old (101, 0, 0), .row true 3 m.funcs.length (fun q => Zai ((clrM m).funcs.getD q default))), ((38, 0, 0), .old (38, 0, 0), .row true 1 m.funcs.length (fun q => [.bool (List.getD S q false)])), ((8, 0, 0), .old (8, 0, 0), .row false 1 1 (fun _ => [.rs (102, 0, 0) 3 0 0])), ((102, 0, 0), .nil, .row true 3 0 (fun q => Zai ((outF S (clrM m).funcs 0).getD q default)))] rfl (by rfl) ?_ (.old rfl (BLe.refl _) (.old rfl (BLe.rowO rfl) (.old rfl (BLe.refl _) (.old rfl (BLe.rowW (Nat.le_refl _) (fun z hz => Wks.of ?_)) (.oldR rfl (BLeR.cells rfl (fun x hx => .cons (.nil rfl) .nil)) (.new .nil))))))
        · ((repeat' first | exact TLes.nil | refine TLes.cons (TLe.eq rfl) ?_); skip)
        · show [AV.bool (bif Nat.blt z m.funcs.length then S.getD z false else false)] = _
          rw [show Nat.blt z m.funcs.length = true from by rw [Nat.blt_eq]; exact hz]; rfl
      intro i hi
      have hle := outF_le S (clrM m).funcs i
      ((repeat' ((fail_if_success (show AWp _ _ _ (Code.region 15 _ _) _ _)); (fail_if_success (show AWp _ _ _ (Code.region 17 _ _) _ _)); (fail_if_success (show AWp _ _ _ (Code.region 34 _ _) _ _)); first | refine Zad ?_ | (refine Zac tok (by rfl) ?_; conv => whnf) | refine Zaf ?_ | (refine Zah ?_; conv => whnf) | (refine Zar ?_; conv => whnf) | refine Zag rfl (fun hb => ?_) (fun hb => ?_) | (refine @And.intro (Zaa _ _ _ _) _ ?_ ?_; rotate_left; (conv => whnf); rotate_right))); all_goals (try ((guard_target = Zaa _ _ _ _); refine Zae ?_; (all_goals (try simp only [Zaa, kzz, kz11, kz12, maxL, Zab] at *)); all_goals omega)))
      · have hil : i < m.funcs.length := by rename_i h; simp only [decide_eq_true_eq] at h; omega
        have hf : S.getD i false = false := by simpa using hb
        clear hb
        (repeat' (refine Zac tok (by rfl) ?_; conv => whnf))
        refine ⟨i + 1, hil, by omega, ?_⟩
        show Weak _ _ _ (mkS [(2, .bp (2, 0, 0) 0), (3, .bp (3, 0, 0) 0), (6, .rs (38, 0, 0) 1 0 m.funcs.length), (8, .bp (8, 0, 0) 0), (9, iv (i + 1))] [((2, 0, 0), Zan [.nsl]), ((3, 0, 0), .row false 1 1 (fun _ => [.rs (101, 0, 0) 3 0 m.funcs.length])), ((101, 0, 0), .row true 3 m.funcs.length (fun q => Zai ((clrM m).funcs.getD q default))), ((38, 0, 0), .row true 1 m.funcs.length (fun q => [.bool (List.getD S q false)])), ((8, 0, 0), .row false 1 1 (fun _ => [.rs (102, 0, 0) 3 0 (outF S (clrM m).funcs (i + 1)).length])), ((102, 0, 0), .row true 3 (outF S (clrM m).funcs (i + 1)).length (fun q => Zai ((outF S (clrM m).funcs (i + 1)).getD q default)))])
        rw [outF_no hf]
        refine Weak.list [((2, 0, 0), .old (2, 0, 0), Zan [.nsl]), ((3, 0, 0), .old (3, 0, 0), .row false 1 1 (fun _ => [.rs (101, 0, 0) 3 0 m.funcs.length])), ((101, 0, 0), .old (101, 0, 0), .row true 3 m.funcs.length (fun q => Zai ((clrM m).funcs.getD q default))), ((38, 0, 0), .old (38, 0, 0), .row true 1 m.funcs.length (fun q => [.bool (List.getD S q false)])), ((8, 0, 0), .old (8, 0, 0), .row false 1 1 (fun _ => [.rs (102, 0, 0) 3 0 (outF S (clrM m).funcs i).length])), ((102, 0, 0), .old (102, 0, 0), .row true 3 (outF S (clrM m).funcs i).length (fun q => Zai ((outF S (clrM m).funcs i).getD q default)))] rfl (by rfl) ?_ (.old rfl (BLe.refl _) (.old rfl (BLe.rowO rfl) (.old rfl (BLe.refl _) (.old rfl (BLe.refl _) (.old rfl (BLe.rowO rfl) (.old rfl (BLe.refl _) .nil))))))
        ((repeat' first | exact TLes.nil | refine TLes.cons (TLe.eq rfl) ?_ | refine TLes.cons (TLe.int ?_) ?_); (all_goals first | ((try (simp only [Zaa, kzz, kz11, kz12, maxL, Zab] at *)); exact Zal (by omega) (by omega)) | skip))
      · have hil : i < m.funcs.length := by rename_i h; simp only [decide_eq_true_eq] at h; omega
        have hf : S.getD i false = true := by simpa using hb
        clear hb
        have hyes := outF_yes (G := (clrM m).funcs) hf
        have hgen : ∃ g, (clrM m).funcs.getD i default = g := ⟨_, rfl⟩
        obtain ⟨g, hgi⟩ := hgen
        rw [hgi] at hyes
        ((repeat' ((fail_if_success (show AWp _ _ _ (Code.region 18 _ _) _ _)); first | refine Zad ?_ | (refine Zac tok (by rfl) ?_; conv => whnf) | (refine @And.intro (Zaa _ _ _ _) _ ?_ ?_; rotate_left; (conv => whnf); rotate_right))); all_goals (try ((guard_target = Zaa _ _ _ _); refine Zae ?_; (all_goals (try simp only [Zaa, kzz, kz11, kz12, maxL, Zab] at *)); all_goals omega)))
        refine Zaz (Weak.list (tl := [(2, .bp (2, 0, 0) 0), (3, .bp (3, 0, 0) 0), (6, .rs (38, 0, 0) 1 0 m.funcs.length), (8, .bp (8, 0, 0) 0), (9, iv i), (10, .bp (10, 0, 0) 0)]) [((2, 0, 0), .old (2, 0, 0), Zan [.nsl]), ((3, 0, 0), .old (3, 0, 0), .row false 1 1 (fun _ => [.rs (101, 0, 0) 3 0 m.funcs.length])), ((101, 0, 0), .old (101, 0, 0), .row true 3 m.funcs.length (fun q => Zai ((clrM m).funcs.getD q default))), ((38, 0, 0), .old (38, 0, 0), .row true 1 m.funcs.length (fun q => [.bool (List.getD S q false)])), ((8, 0, 0), .old (8, 0, 0), .row false 1 1 (fun _ => [.rs (102, 0, 0) 3 0 (outF S (clrM m).funcs i).length])), ((102, 0, 0), .old (102, 0, 0), .row true 3 (outF S (clrM m).funcs i).length (fun q => Zai ((outF S (clrM m).funcs i).getD q default))), ((10, 0, 0), .old (10, 0, 0), .row true 3 1 (fun _ => Zai g))] rfl (by rfl) ?_ (.old rfl (BLe.refl _) (.old rfl (BLe.rowO rfl) (.old rfl (BLe.refl _) (.old rfl (BLe.refl _) (.old rfl (BLe.rowO rfl) (.old rfl (BLe.refl _) (.old rfl (BLe.rowW (Nat.le_refl _) (ltS (Wks.of (by rw [← hgi, Nat.zero_add, Int.toNat_natCast]; rfl)) lt0)) .nil)))))))) ?_
        · ((repeat' first | exact TLes.nil | refine TLes.cons (TLe.eq rfl) ?_); skip)
        (repeat' first | refine Zad ?_ | (refine Zac tok (by rfl) ?_; conv => whnf) | refine Zaf ?_)
        refine Zas (fun j : Nat => mkS [(2, .bp (2, 0, 0) 0), (3, .bp (3, 0, 0) 0), (6, .rs (38, 0, 0) 1 0 m.funcs.length), (8, .bp (8, 0, 0) 0), (9, iv i), (10, .bp (10, 0, 0) 0), (11, .rs (103, 0, 0) 14 0 j), (12, iv j)] [((2, 0, 0), Zan [.nsl]), ((3, 0, 0), .row false 1 1 (fun _ => [.rs (101, 0, 0) 3 0 m.funcs.length])), ((101, 0, 0), .row true 3 m.funcs.length (fun q => Zai ((clrM m).funcs.getD q default))), ((38, 0, 0), .row true 1 m.funcs.length (fun q => [.bool (List.getD S q false)])), ((8, 0, 0), .row false 1 1 (fun _ => [.rs (102, 0, 0) 3 0 (outF S (clrM m).funcs i).length])), ((102, 0, 0), .row true 3 (outF S (clrM m).funcs i).length (fun q => Zai ((outF S (clrM m).funcs i).getD q default))), ((10, 0, 0), .row true 3 1 (fun _ => Zai g)), ((103, 0, 0), .row true 14 j (fun q => Zam (renC S (g.blocks.getD q default))))]) (fun j => j ≤ g.blocks.length) (fun j => g.blocks.length - j) 0 (Nat.zero_le _) ?_ ?_
        · refine Weak.list [((2, 0, 0), .old (2, 0, 0), Zan [.nsl]), ((3, 0, 0), .old (3, 0, 0), .row false 1 1 (fun _ => [.rs (101, 0, 0) 3 0 m.funcs.length])), ((101, 0, 0), .old (101, 0, 0), .row true 3 m.funcs.length (fun q => Zai ((clrM m).funcs.getD q default))), ((38, 0, 0), .old (38, 0, 0), .row true 1 m.funcs.length (fun q => [.bool (List.getD S q false)])), ((8, 0, 0), .old (8, 0, 0), .row false 1 1 (fun _ => [.rs (102, 0, 0) 3 0 (outF S (clrM m).funcs i).length])), ((102, 0, 0), .old (102, 0, 0), .row true 3 (outF S (clrM m).funcs i).length (fun q => Zai ((outF S (clrM m).funcs i).getD q default))), ((10, 0, 0), .old (10, 0, 0), .row true 3 1 (fun _ => Zai g)), ((103, 0, 0), .nil, .row true 14 0 (fun q => Zam (renC S (g.blocks.getD q default))))] rfl (by rfl) ?_ (.old rfl (BLe.refl _) (.old rfl (BLe.rowO rfl) (.old rfl (BLe.refl _) (.old rfl (BLe.refl _) (.old rfl (BLe.rowO rfl) (.old rfl (BLe.refl _) (.old rfl (BLe.refl _) (.new .nil))))))))
          ((repeat' first | exact TLes.nil | refine TLes.cons (TLe.eq rfl) ?_ | refine TLes.cons (TLe.nilL rfl ?_) ?_); (all_goals first | rfl | skip))
        intro j hj
        (repeat' ((fail_if_success (show AWp _ _ _ (Code.region 22 _ _) _ _)); (fail_if_success (show AWp _ _ _ (Code.region 32 _ _) _ _)); first | refine Zad ?_ | (refine Zac tok (by rfl) ?_; conv => whnf) | refine Zaf ?_ | (refine Zah ?_; conv => whnf) | (refine Zar ?_; conv => whnf) | refine Zag rfl (fun hb => ?_) (fun hb => ?_)))
        · have hjl : j < g.blocks.length := by simp only [decide_eq_true_eq] at hb; omega
          clear hb
          have hgen : ∃ b, g.blocks.getD j default = b := ⟨_, rfl⟩
          obtain ⟨b, hbj⟩ := hgen
          have hg64 : g.blocks.length ≤ 64 := by
            have hg2 : g = Zbm (m.funcs.getD i default) := by rw [← hgi]; exact clrM_at hil
            have hfb := Zdu hr hil
            unfold Zfv at hfb
            rw [Bool.and_eq_true, decide_eq_true_eq] at hfb
            have hfp := hfb.1
            unfold FunP at hfp
            have hle2 : (Zbm (m.funcs.getD i default)).blocks.length ≤ (m.funcs.getD i default).blocks.length := by
              unfold Zbm; split
              · exact keptB_le _ _ _
              · exact Nat.le_refl _
            rw [hg2]; omega
          have hob : ∃ n b0, n < m.funcs.length ∧ b.ins = b0.ins ∧ b.fin.kind = b0.fin.kind ∧ b.fin.f = b0.fin.f ∧ OkB m.funcs.length (m.funcs.getD n default).blocks.length b0 ∧ b0.ins.length ≤ 64 := by
            have hg2 : g = Zbm (m.funcs.getD i default) := by rw [← hgi]; exact clrM_at hil
            have hjl2 : j < (Zbm (m.funcs.getD i default)).blocks.length := by rw [← hg2]; exact hjl
            obtain ⟨n, hn, a1, a2, a3⟩ := ref13_from hjl2
            rw [← hg2, hbj] at a1 a2 a3
            have hbb := Zfu (Zdu hr hil) hn
            unfold blkB at hbb
            rw [Bool.and_eq_true, decide_eq_true_eq] at hbb
            exact ⟨i, _, hil, a1, a2, a3, okB_of hr hil hn, hbb.1.1⟩
          have h64 : b.ins.length ≤ 64 := by
            obtain ⟨n, b0, _, a1, _, _, _, h⟩ := hob
            rw [a1]; exact h
          have hins : ∀ q, q < b.ins.length → (b.ins.getD q default).op = 11 → 0 ≤ (b.ins.getD q default).f ∧ (b.ins.getD q default).f < m.funcs.length := by
            obtain ⟨n, b0, _, a1, _, _, ok, _⟩ := hob
            rw [a1]; exact ok.ins
          have hend : b.fin.kind = 4 → 0 ≤ b.fin.f ∧ b.fin.f < m.funcs.length := by
            obtain ⟨n, b0, _, _, a2, a3, ok, _⟩ := hob
            rw [a2, a3]; exact ok.fn
          ((repeat' ((fail_if_success (show AWp _ _ _ (Code.region 23 _ _) _ _)); first | refine Zad ?_ | (refine Zac tok (by rfl) ?_; conv => whnf) | (refine @And.intro (Zaa _ _ _ _) _ ?_ ?_; rotate_left; (conv => whnf); rotate_right))); all_goals (try ((guard_target = Zaa _ _ _ _); refine Zae ?_; (all_goals (try simp only [Zaa, kzz, kz11, kz12, maxL, Zab] at *)); all_goals omega)))
          refine Zaz (Weak.list (tl := [(2, .bp (2, 0, 0) 0), (3, .bp (3, 0, 0) 0), (6, .rs (38, 0, 0) 1 0 m.funcs.length), (8, .bp (8, 0, 0) 0), (9, iv i), (10, .bp (10, 0, 0) 0), (11, .rs (103, 0, 0) 14 0 j), (12, iv j), (13, .bp (13, 0, 0) 0)]) [((2, 0, 0), .old (2, 0, 0), Zan [.nsl]), ((3, 0, 0), .old (3, 0, 0), .row false 1 1 (fun _ => [.rs (101, 0, 0) 3 0 m.funcs.length])), ((101, 0, 0), .old (101, 0, 0), .row true 3 m.funcs.length (fun q => Zai ((clrM m).funcs.getD q default))), ((38, 0, 0), .old (38, 0, 0), .row true 1 m.funcs.length (fun q => [.bool (List.getD S q false)])), ((8, 0, 0), .old (8, 0, 0), .row false 1 1 (fun _ => [.rs (102, 0, 0) 3 0 (outF S (clrM m).funcs i).length])), ((102, 0, 0), .old (102, 0, 0), .row true 3 (outF S (clrM m).funcs i).length (fun q => Zai ((outF S (clrM m).funcs i).getD q default))), ((10, 0, 0), .old (10, 0, 0), .row true 3 1 (fun _ => Zai g)), ((103, 0, 0), .old (103, 0, 0), .row true 14 j (fun q => Zam (renC S (g.blocks.getD q default)))), ((13, 0, 0), .old (13, 0, 0), .row true 14 1 (fun _ => Zam b))] rfl (by rfl) ?_ (.old rfl (BLe.refl _) (.old rfl (BLe.rowO rfl) (.old rfl (BLe.refl _) (.old rfl (BLe.refl _) (.old rfl (BLe.rowO rfl) (.old rfl (BLe.refl _) (.old rfl (BLe.refl _) (.old rfl (BLe.refl _) (.old rfl (BLe.rowW (Nat.le_refl _) (ltS (Wks.of (by rw [← hbj, Int.toNat_natCast]; rfl)) lt0)) .nil)))))))))) ?_
          · ((repeat' first | exact TLes.nil | refine TLes.cons (TLe.eq rfl) ?_); skip)
          ((repeat' first | refine Zad ?_ | (refine Zac tok (by rfl) ?_; conv => whnf) | refine Zaf ?_ | (refine @And.intro (Zaa _ _ _ _) _ ?_ ?_; rotate_left; (conv => whnf); rotate_right)); all_goals (try ((guard_target = Zaa _ _ _ _); refine Zae ?_; (first | refine And.intro Ze4 ?_ | skip); (all_goals (try simp only [Zaa, kzz, kz11, kz12, maxL, Zab] at *)); all_goals omega)))
          refine Zas (fun q : Nat => mkS [(2, .bp (2, 0, 0) 0), (3, .bp (3, 0, 0) 0), (6, .rs (38, 0, 0) 1 0 m.funcs.length), (8, .bp (8, 0, 0) 0), (9, iv i), (10, .bp (10, 0, 0) 0), (11, .rs (103, 0, 0) 14 0 j), (12, iv j), (13, .bp (13, 0, 0) 0), (14, iv q)] [((2, 0, 0), Zan [.nsl]), ((3, 0, 0), .row false 1 1 (fun _ => [.rs (101, 0, 0) 3 0 m.funcs.length])), ((101, 0, 0), .row true 3 m.funcs.length (fun q => Zai ((clrM m).funcs.getD q default))), ((38, 0, 0), .row true 1 m.funcs.length (fun q => [.bool (List.getD S q false)])), ((8, 0, 0), .row false 1 1 (fun _ => [.rs (102, 0, 0) 3 0 (outF S (clrM m).funcs i).length])), ((102, 0, 0), .row true 3 (outF S (clrM m).funcs i).length (fun q => Zai ((outF S (clrM m).funcs i).getD q default))), ((10, 0, 0), .row true 3 1 (fun _ => Zai g)), ((103, 0, 0), .row true 14 j (fun q => Zam (renC S (g.blocks.getD q default)))), ((13, 0, 0), .row false 14 1 (fun _ => blkO b (.rs (104, 0, 0) 7 0 b.ins.length))), ((104, 0, 0), .row true 7 b.ins.length (fun z => Zbd (bif Nat.blt z q then renI S (b.ins.getD z default) else b.ins.getD z default)))]) (fun q => q ≤ b.ins.length) (fun q => b.ins.length - q) 0 (Nat.zero_le _) ?_ ?_
          · refine Weak.list [((2, 0, 0), .old (2, 0, 0), Zan [.nsl]), ((3, 0, 0), .old (3, 0, 0), .row false 1 1 (fun _ => [.rs (101, 0, 0) 3 0 m.funcs.length])), ((101, 0, 0), .old (101, 0, 0), .row true 3 m.funcs.length (fun q => Zai ((clrM m).funcs.getD q default))), ((38, 0, 0), .old (38, 0, 0), .row true 1 m.funcs.length (fun q => [.bool (List.getD S q false)])), ((8, 0, 0), .old (8, 0, 0), .row false 1 1 (fun _ => [.rs (102, 0, 0) 3 0 (outF S (clrM m).funcs i).length])), ((102, 0, 0), .old (102, 0, 0), .row true 3 (outF S (clrM m).funcs i).length (fun q => Zai ((outF S (clrM m).funcs i).getD q default))), ((10, 0, 0), .old (10, 0, 0), .row true 3 1 (fun _ => Zai g)), ((103, 0, 0), .old (103, 0, 0), .row true 14 j (fun q => Zam (renC S (g.blocks.getD q default)))), ((13, 0, 0), .old (13, 0, 0), .row false 14 1 (fun _ => blkO b (.rs (104, 0, 0) 7 0 b.ins.length))), ((104, 0, 0), .old (86, 0, 0), .row true 7 b.ins.length (fun z => Zbd (bif Nat.blt z 0 then renI S (b.ins.getD z default) else b.ins.getD z default)))] rfl (by rfl) ?_ (.old rfl (BLe.refl _) (.old rfl (BLe.rowO rfl) (.old rfl (BLe.refl _) (.old rfl (BLe.refl _) (.old rfl (BLe.rowO rfl) (.old rfl (BLe.refl _) (.old rfl (BLe.refl _) (.old rfl (BLe.refl _) (.old rfl (BLe.rowW (Nat.le_refl _) (ltS (Wks.of (by show blkO b (.rs (104, 0, 0) 7 0 (0 + b.ins.length)) = _; rw [Nat.zero_add])) lt0)) (.old rfl (BLe.rowW (Nat.le_of_eq (by simp)) (fun z hz => Wks.of (Zd7 (f := rowOf 7 [])))) .nil))))))))))
            ((repeat' first | exact TLes.nil | refine TLes.cons (TLe.eq rfl) ?_); skip)
            all_goals (try simp)
          intro q hq
          (repeat' ((fail_if_success (show AWp _ _ _ (Code.region 27 _ _) _ _)); (fail_if_success (show AWp _ _ _ (Code.region 29 _ _) _ _)); first | refine Zad ?_ | (refine Zac tok (by rfl) ?_; conv => whnf) | refine Zaf ?_ | (refine Zah ?_; conv => whnf) | (refine Zar ?_; conv => whnf) | refine Zag rfl (fun hb => ?_) (fun hb => ?_)))
          · have hql : q < b.ins.length := by simp only [decide_eq_true_eq] at hb; omega
            clear hb
            refine Zat 91 (fun hl => ?_)
            have hle : (b.ins.length : Int) ≤ 9223372036854775807 := hl.2
            clear hl
            ((repeat' first | (refine Zac tok (by rfl) ?_; conv => whnf) | (refine @And.intro (Zaa _ _ _ _) _ ?_ ?_; rotate_left; (conv => whnf); rotate_right)); all_goals (try ((guard_target = Zaa _ _ _ _); refine Zae ?_; (all_goals (try simp only [Zaa, kzz, kz11, kz12, maxL, Zab] at *)); all_goals omega)))
            have hx0 : Nat.blt (0 + (q : Int).toNat) q = false := by
              rw [Bool.eq_false_iff]; intro h; rw [Nat.blt_eq, Nat.zero_add, Int.toNat_natCast] at h; omega
            have hcur : (bif Nat.blt (0 + (q : Int).toNat) q then renI S (b.ins.getD (0 + (q : Int).toNat) default) else b.ins.getD (0 + (q : Int).toNat) default) = b.ins.getD q default := by rw [hx0, cond_false, Nat.zero_add, Int.toNat_natCast]
            have fin : ∀ z, z ≠ q → Nat.blt z q = Nat.blt z (q + 1) := fun z hz => by
              rw [Bool.eq_iff_iff, Nat.blt_eq, Nat.blt_eq]; omega
            have hlq : Nat.blt q (q + 1) = true := by rw [Nat.blt_eq]; omega
            refine Zag rfl (fun hb => ?_) (fun hb => ?_)
            · have hop : (b.ins.getD q default).op = 11 := by rw [← hcur]; simpa only [decide_eq_true_eq] using hb
              clear hb
              obtain ⟨hn0, hn1⟩ := hins q hql hop
              have hcall : ∀ y, y = (b.ins.getD q default).f → FC Try.prog 101 [Zea S, iv y] (iv (numB S (b.ins.getD q default).f.toNat)) := fun y e => by rw [e]; exact c_Number S _ hn0 (by rw [hsl]; omega)
              ((repeat' first | (refine Za3 tok mix (by rfl) ?_; conv => whnf) | (refine @And.intro (Zaa _ _ _ _) _ ?_ ?_; rotate_left; (conv => whnf); rotate_right)); all_goals (try ((guard_target = Zaa _ _ _ _); refine Zae ?_; (all_goals (try simp only [Zaa, kzz, kz11, kz12, maxL, Zab] at *)); all_goals omega)))
              refine .inl ⟨_, _, _, uG (QC.sc (rd := [(38, 0, 0)]) (hcall (Ins.f (bif Nat.blt (0 + (q : Int).toNat) q then renI S (b.ins.getD (0 + (q : Int).toNat) default) else b.ins.getD (0 + (q : Int).toNat) default)) (by rw [hcur])) (.cons (.row rfl (.head _) rfl hsl.symm (fun _ _ => rfl)) (.cons (.imm rfl) .nil)) rfl), ?_⟩
              conv => whnf
              ((repeat' first | (refine Zac tok (by rfl) ?_; conv => whnf) | (refine @And.intro (Zaa _ _ _ _) _ ?_ ?_; rotate_left; (conv => whnf); rotate_right)); all_goals (try ((guard_target = Zaa _ _ _ _); refine Zae ?_; (all_goals (try simp only [Zaa, kzz, kz11, kz12, maxL, Zab] at *)); all_goals omega)))
              refine ⟨q + 1, hql, by omega, ?_⟩
              have hre : renI S (b.ins.getD q default) = { (b.ins.getD q default) with f := numB S (b.ins.getD q default).f.toNat } := by unfold renI; rw [if_pos hop]
              refine Weak.list [((2, 0, 0), .old (2, 0, 0), Zan [.nsl]), ((3, 0, 0), .old (3, 0, 0), .row false 1 1 (fun _ => [.rs (101, 0, 0) 3 0 m.funcs.length])), ((101, 0, 0), .old (101, 0, 0), .row true 3 m.funcs.length (fun q => Zai ((clrM m).funcs.getD q default))), ((38, 0, 0), .old (38, 0, 0), .row true 1 m.funcs.length (fun q => [.bool (List.getD S q false)])), ((8, 0, 0), .old (8, 0, 0), .row false 1 1 (fun _ => [.rs (102, 0, 0) 3 0 (outF S (clrM m).funcs i).length])), ((102, 0, 0), .old (102, 0, 0), .row true 3 (outF S (clrM m).funcs i).length (fun q => Zai ((outF S (clrM m).funcs i).getD q default))), ((10, 0, 0), .old (10, 0, 0), .row true 3 1 (fun _ => Zai g)), ((103, 0, 0), .old (103, 0, 0), .row true 14 j (fun q => Zam (renC S (g.blocks.getD q default)))), ((13, 0, 0), .old (13, 0, 0), .row false 14 1 (fun _ => blkO b (.rs (104, 0, 0) 7 0 b.ins.length))), ((104, 0, 0), .old (104, 0, 0), .row true 7 b.ins.length (fun z => Zbd (bif Nat.blt z (q + 1) then renI S (b.ins.getD z default) else b.ins.getD z default)))] rfl (by rfl) ?_ (.old rfl (BLe.refl _) (.old rfl (BLe.rowO rfl) (.old rfl (BLe.refl _) (.old rfl (BLe.refl _) (.old rfl (BLe.rowO rfl) (.old rfl (BLe.refl _) (.old rfl (BLe.refl _) (.old rfl (BLe.refl _) (.old rfl (BLe.rowO rfl) (.old rfl (BLe.rowW (Nat.le_refl _) (fun z hz => Wks.of ?_)) .nil))))))))))
              · ((repeat' first | exact TLes.nil | refine TLes.cons (TLe.eq rfl) ?_ | refine TLes.cons (TLe.int ?_) ?_); (all_goals first | ((try (simp only [Zaa, kzz, kz11, kz12, maxL, Zab] at *)); exact Zal (by omega) (by omega)) | skip))
              · show updR (fun z => Zbd (bif Nat.blt z q then renI S (b.ins.getD z default) else b.ins.getD z default)) (0 + (q : Int).toNat) (Zbd { (bif Nat.blt (0 + (q : Int).toNat) q then renI S (b.ins.getD (0 + (q : Int).toNat) default) else b.ins.getD (0 + (q : Int).toNat) default) with f := numB S (b.ins.getD q default).f.toNat }) z = Zbd (bif Nat.blt z (q + 1) then renI S (b.ins.getD z default) else b.ins.getD z default)
                rw [hcur, ← hre, Nat.zero_add, Int.toNat_natCast]
                by_cases e : q = z
                · subst e; refine updR_hit.trans ?_; rw [hlq]; rfl
                · refine (updR_miss e).trans ?_
                  rw [fin z (Ne.symm e)]
            · have hop : ¬ (b.ins.getD q default).op = 11 := by rw [← hcur]; simpa only [decide_eq_false_iff_not] using hb
              clear hb
              have hre : renI S (b.ins.getD q default) = b.ins.getD q default := by unfold renI; rw [if_neg hop]
              (repeat' first | (refine Zac tok (by rfl) ?_; conv => whnf) | (refine Zah ?_; conv => whnf))
              refine ⟨q + 1, hql, by omega, ?_⟩
              refine Weak.list [((2, 0, 0), .old (2, 0, 0), Zan [.nsl]), ((3, 0, 0), .old (3, 0, 0), .row false 1 1 (fun _ => [.rs (101, 0, 0) 3 0 m.funcs.length])), ((101, 0, 0), .old (101, 0, 0), .row true 3 m.funcs.length (fun q => Zai ((clrM m).funcs.getD q default))), ((38, 0, 0), .old (38, 0, 0), .row true 1 m.funcs.length (fun q => [.bool (List.getD S q false)])), ((8, 0, 0), .old (8, 0, 0), .row false 1 1 (fun _ => [.rs (102, 0, 0) 3 0 (outF S (clrM m).funcs i).length])), ((102, 0, 0), .old (102, 0, 0), .row true 3 (outF S (clrM m).funcs i).length (fun q => Zai ((outF S (clrM m).funcs i).getD q default))), ((10, 0, 0), .old (10, 0, 0), .row true 3 1 (fun _ => Zai g)), ((103, 0, 0), .old (103, 0, 0), .row true 14 j (fun q => Zam (renC S (g.blocks.getD q default)))), ((13, 0, 0), .old (13, 0, 0), .row false 14 1 (fun _ => blkO b (.rs (104, 0, 0) 7 0 b.ins.length))), ((104, 0, 0), .old (104, 0, 0), .row true 7 b.ins.length (fun z => Zbd (bif Nat.blt z (q + 1) then renI S (b.ins.getD z default) else b.ins.getD z default)))] rfl (by rfl) ?_ (.old rfl (BLe.refl _) (.old rfl (BLe.rowO rfl) (.old rfl (BLe.refl _) (.old rfl (BLe.refl _) (.old rfl (BLe.rowO rfl) (.old rfl (BLe.refl _) (.old rfl (BLe.refl _) (.old rfl (BLe.refl _) (.old rfl (BLe.rowO rfl) (.old rfl (BLe.rowW (Nat.le_refl _) (fun z hz => Wks.of ?_)) .nil))))))))))
              · ((repeat' first | exact TLes.nil | refine TLes.cons (TLe.eq rfl) ?_ | refine TLes.cons (TLe.int ?_) ?_); (all_goals first | ((try (simp only [Zaa, kzz, kz11, kz12, maxL, Zab] at *)); exact Zal (by omega) (by omega)) | skip))
              · show Zbd (bif Nat.blt z q then renI S (b.ins.getD z default) else b.ins.getD z default) = _
                by_cases e : z = q
                · subst e; rw [hlq, hre]; cases Nat.blt z z <;> rfl
                · rw [fin z e]
          · have hql : q = b.ins.length := by simp only [decide_eq_false_iff_not] at hb; omega
            clear hb
            subst hql
            have hbe : (renC S b).ins = b.ins.map (renI S) := rfl
            (repeat' (refine Zac tok (by rfl) ?_; conv => whnf))
            have hall : ∀ z, z < b.ins.length → Zbd (bif Nat.blt z b.ins.length then renI S (b.ins.getD z default) else b.ins.getD z default) = Zbd (renI S (b.ins.getD z default)) := fun z hz => by rw [show Nat.blt z b.ins.length = true from by rw [Nat.blt_eq]; exact hz]; rfl
            refine Zb1 (α := Unit) (fun _ => mkS [(2, .bp (2, 0, 0) 0), (3, .bp (3, 0, 0) 0), (6, .rs (38, 0, 0) 1 0 m.funcs.length), (8, .bp (8, 0, 0) 0), (9, iv i), (10, .bp (10, 0, 0) 0), (11, .rs (103, 0, 0) 14 0 j), (12, iv j), (13, .bp (13, 0, 0) 0)] [((2, 0, 0), Zan [.nsl]), ((3, 0, 0), .row false 1 1 (fun _ => [.rs (101, 0, 0) 3 0 m.funcs.length])), ((101, 0, 0), .row true 3 m.funcs.length (fun q => Zai ((clrM m).funcs.getD q default))), ((38, 0, 0), .row true 1 m.funcs.length (fun q => [.bool (List.getD S q false)])), ((8, 0, 0), .row false 1 1 (fun _ => [.rs (102, 0, 0) 3 0 (outF S (clrM m).funcs i).length])), ((102, 0, 0), .row true 3 (outF S (clrM m).funcs i).length (fun q => Zai ((outF S (clrM m).funcs i).getD q default))), ((10, 0, 0), .row true 3 1 (fun _ => Zai g)), ((103, 0, 0), .row true 14 j (fun q => Zam (renC S (g.blocks.getD q default)))), ((13, 0, 0), .row false 14 1 (fun _ => blkO { b with fin := (renE S b.fin) } (.rs (104, 0, 0) 7 0 b.ins.length))), ((104, 0, 0), .row true 7 b.ins.length (fun z => Zbd (renI S (b.ins.getD z default))))]) (fun _ => True) ?_ ?_
            · refine Zag rfl (fun hb => ?_) (fun hb => ?_)
              · have h4 : b.fin.kind = 4 := by simpa using hb
                clear hb
                obtain ⟨hn0, hn1⟩ := hend h4
                have hcall := c_Number S b.fin.f hn0 (by rw [hsl]; omega)
                have e : renE S b.fin = { b.fin with f := numB S b.fin.f.toNat } := by unfold renE; rw [if_pos h4]
                (repeat' (refine Zac tok (by rfl) ?_; conv => whnf))
                refine .inl ⟨_, _, _, uG (QC.sc (rd := [(38, 0, 0)]) hcall (.cons (.row rfl (.head _) rfl hsl.symm (fun _ _ => rfl)) (.cons (.imm rfl) .nil)) rfl), ?_⟩
                conv => whnf
                skip
                refine ⟨(), trivial, Weak.list [((2, 0, 0), .old (2, 0, 0), Zan [.nsl]), ((3, 0, 0), .old (3, 0, 0), .row false 1 1 (fun _ => [.rs (101, 0, 0) 3 0 m.funcs.length])), ((101, 0, 0), .old (101, 0, 0), .row true 3 m.funcs.length (fun q => Zai ((clrM m).funcs.getD q default))), ((38, 0, 0), .old (38, 0, 0), .row true 1 m.funcs.length (fun q => [.bool (List.getD S q false)])), ((8, 0, 0), .old (8, 0, 0), .row false 1 1 (fun _ => [.rs (102, 0, 0) 3 0 (outF S (clrM m).funcs i).length])), ((102, 0, 0), .old (102, 0, 0), .row true 3 (outF S (clrM m).funcs i).length (fun q => Zai ((outF S (clrM m).funcs i).getD q default))), ((10, 0, 0), .old (10, 0, 0), .row true 3 1 (fun _ => Zai g)), ((103, 0, 0), .old (103, 0, 0), .row true 14 j (fun q => Zam (renC S (g.blocks.getD q default)))), ((13, 0, 0), .old (13, 0, 0), .row false 14 1 (fun _ => blkO { b with fin := (renE S b.fin) } (.rs (104, 0, 0) 7 0 b.ins.length))), ((104, 0, 0), .old (104, 0, 0), .row true 7 b.ins.length (fun z => Zbd (renI S (b.ins.getD z default))))] rfl (by rfl) ?_ (.old rfl (BLe.refl _) (.old rfl (BLe.rowO rfl) (.old rfl (BLe.refl _) (.old rfl (BLe.refl _) (.old rfl (BLe.rowO rfl) (.old rfl (BLe.refl _) (.old rfl (BLe.refl _) (.old rfl (BLe.refl _) (.old rfl (BLe.rowW (Nat.le_refl _) (ltS (Wks.of (by rw [e]; rfl)) lt0)) (.old rfl (BLe.rowW (Nat.le_refl _) (fun z hz => Wks.of (hall z hz))) .nil))))))))))⟩
                ((repeat' first | exact TLes.nil | refine TLes.cons (TLe.eq rfl) ?_); skip)
              · have h4 : ¬ b.fin.kind = 4 := by simpa using hb
                clear hb
                have e : renE S b.fin = b.fin := by unfold renE; rw [if_neg h4]
                (repeat' (refine Zah ?_; conv => whnf))
                refine ⟨(), trivial, Weak.list [((2, 0, 0), .old (2, 0, 0), Zan [.nsl]), ((3, 0, 0), .old (3, 0, 0), .row false 1 1 (fun _ => [.rs (101, 0, 0) 3 0 m.funcs.length])), ((101, 0, 0), .old (101, 0, 0), .row true 3 m.funcs.length (fun q => Zai ((clrM m).funcs.getD q default))), ((38, 0, 0), .old (38, 0, 0), .row true 1 m.funcs.length (fun q => [.bool (List.getD S q false)])), ((8, 0, 0), .old (8, 0, 0), .row false 1 1 (fun _ => [.rs (102, 0, 0) 3 0 (outF S (clrM m).funcs i).length])), ((102, 0, 0), .old (102, 0, 0), .row true 3 (outF S (clrM m).funcs i).length (fun q => Zai ((outF S (clrM m).funcs i).getD q default))), ((10, 0, 0), .old (10, 0, 0), .row true 3 1 (fun _ => Zai g)), ((103, 0, 0), .old (103, 0, 0), .row true 14 j (fun q => Zam (renC S (g.blocks.getD q default)))), ((13, 0, 0), .old (13, 0, 0), .row false 14 1 (fun _ => blkO { b with fin := (renE S b.fin) } (.rs (104, 0, 0) 7 0 b.ins.length))), ((104, 0, 0), .old (104, 0, 0), .row true 7 b.ins.length (fun z => Zbd (renI S (b.ins.getD z default))))] rfl (by rfl) ?_ (.old rfl (BLe.refl _) (.old rfl (BLe.rowO rfl) (.old rfl (BLe.refl _) (.old rfl (BLe.refl _) (.old rfl (BLe.rowO rfl) (.old rfl (BLe.refl _) (.old rfl (BLe.refl _) (.old rfl (BLe.refl _) (.old rfl (BLe.rowW (Nat.le_refl _) (ltS (Wks.of (by rw [e]; rfl)) lt0)) (.old rfl (BLe.rowW (Nat.le_refl _) (fun z hz => Wks.of (hall z hz))) .nil))))))))))⟩
                ((repeat' first | exact TLes.nil | refine TLes.cons (TLe.eq rfl) ?_); skip)
            rintro ⟨⟩ - τ hw
            refine Zaz hw ?_
            clear hw
            ((repeat' ((fail_if_success (show AWp _ _ _ (Code.region 21 _ _) _ _)); first | (refine Zac tok (by rfl) ?_; conv => whnf) | (refine @And.intro (Zaa _ _ _ _) _ ?_ ?_; rotate_left; (conv => whnf); rotate_right))); all_goals (try ((guard_target = Zaa _ _ _ _); refine Zae ?_; (first | refine And.intro (Zbx rfl ?_) ?_ | skip); (all_goals (try simp only [Zaa, kzz, kz11, kz12, maxL, Zab] at *)); all_goals omega)))
            refine Zaz (Weak.fam (L := []) (tl := [(2, .bp (2, 0, 0) 0), (3, .bp (3, 0, 0) 0), (6, .rs (38, 0, 0) 1 0 m.funcs.length), (8, .bp (8, 0, 0) 0), (9, iv i), (10, .bp (10, 0, 0) 0), (11, .rs (103, 0, 0) 14 0 (j + 1)), (12, iv j)]) (hl := [((2, 0, 0), Zan [.nsl]), ((3, 0, 0), .row false 1 1 (fun _ => [.rs (101, 0, 0) 3 0 m.funcs.length])), ((101, 0, 0), .row true 3 m.funcs.length (fun q => Zai ((clrM m).funcs.getD q default))), ((38, 0, 0), .row true 1 m.funcs.length (fun q => [.bool (List.getD S q false)])), ((8, 0, 0), .row false 1 1 (fun _ => [.rs (102, 0, 0) 3 0 (outF S (clrM m).funcs i).length])), ((102, 0, 0), .row true 3 (outF S (clrM m).funcs i).length (fun q => Zai ((outF S (clrM m).funcs i).getD q default))), ((10, 0, 0), .row true 3 1 (fun _ => Zai g)), ((103, 0, 0), .row true 14 (j + 1) (fun q => Zam (renC S (g.blocks.getD q default))))]) (F := noH) [((103, 0, 0), some (129, 0, 0))] rfl (fun c hc => by simp only [tgts, List.mem_cons, List.not_mem_nil, or_false] at hc; rcases hc with rfl; exact .inl rfl) ?_ ?_ noF (fun i hi => by cases hi)) ?_
            · (repeat' first | exact TLg.nil | refine TLg.cons (GV.imm rfl) ?_ | refine TLg.cons (GV.bp rfl rfl) ?_ | refine TLg.cons (GV.rs rfl rfl ?_ ?_) ?_)
              all_goals rfl
            · refine .old rfl rfl (GB.one (GVs.imm rfl) (fun _ => rfl)) (.old rfl rfl (GB.one (.cons (.rs rfl rfl rfl rfl) .nil) (fun e => by cases e)) (.old rfl rfl (GB.rowI (Nat.le_refl _) (fun q hq => ⟨rfl, rfl⟩)) (.old rfl rfl (GB.rowI (Nat.le_refl _) (fun q hq => ⟨rfl, rfl⟩)) (.old rfl rfl (GB.one (.cons (.rs rfl rfl rfl rfl) .nil) (fun e => by cases e)) (.old rfl rfl (GB.rowI (Nat.le_refl _) (fun q hq => ⟨rfl, rfl⟩)) (.old rfl rfl (GB.one (GVs.imm rfl) (fun _ => rfl)) (.old rfl rfl (GB.row (Nat.le_refl _) (fun q hq => ?_) (fun _ _ _ => rfl)) .nil)))))))
              refine GVs_app2 (K := fun l => Zbt (kill (103, 0, 0)) l) hq (fun _ => GVs.eqI rfl rfl) (fun heq => ?_)
              subst heq
              rw [hbj]
              refine .cons (.imm rfl) (.cons (.imm rfl) (.cons (.imm rfl) (.cons (.imm rfl) (.cons (.imm rfl) (.cons (.frz (hd_no rfl) rfl (Nat.le_of_eq (Nat.zero_add _)) (List.length_map _).symm (fun x hx => GVs.eqI rfl ?_) (fun _ _ => rfl)) (.cons (.imm rfl) (.cons (.imm rfl) (.cons (.imm rfl) (.cons (.imm rfl) (.cons (.imm rfl) (.cons (.imm rfl) (.cons (.imm rfl) (.cons (.imm rfl) (.nil))))))))))))))
              rw [Nat.zero_add]
              show Zbd (renI S (b.ins.getD x default)) = Zbd ((b.ins.map (renI S)).getD x default)
              rw [List.getD_eq_getElem?_getD (l := b.ins.map (renI S)), List.getElem?_map, List.getElem?_eq_getElem hx, Zbh default hx]; rfl
            (repeat' (refine Zac tok (by rfl) ?_; conv => whnf))
            refine ⟨j + 1, hjl, by omega, ?_⟩
            refine Weak.list [((2, 0, 0), .old (2, 0, 0), Zan [.nsl]), ((3, 0, 0), .old (3, 0, 0), .row false 1 1 (fun _ => [.rs (101, 0, 0) 3 0 m.funcs.length])), ((101, 0, 0), .old (101, 0, 0), .row true 3 m.funcs.length (fun q => Zai ((clrM m).funcs.getD q default))), ((38, 0, 0), .old (38, 0, 0), .row true 1 m.funcs.length (fun q => [.bool (List.getD S q false)])), ((8, 0, 0), .old (8, 0, 0), .row false 1 1 (fun _ => [.rs (102, 0, 0) 3 0 (outF S (clrM m).funcs i).length])), ((102, 0, 0), .old (102, 0, 0), .row true 3 (outF S (clrM m).funcs i).length (fun q => Zai ((outF S (clrM m).funcs i).getD q default))), ((10, 0, 0), .old (10, 0, 0), .row true 3 1 (fun _ => Zai g)), ((103, 0, 0), .old (103, 0, 0), .row true 14 (j + 1) (fun q => Zam (renC S (g.blocks.getD q default))))] rfl (by rfl) ?_ (.old rfl (BLe.refl _) (.old rfl (BLe.rowO rfl) (.old rfl (BLe.refl _) (.old rfl (BLe.refl _) (.old rfl (BLe.rowO rfl) (.old rfl (BLe.refl _) (.old rfl (BLe.refl _) (.old rfl (BLe.refl _) .nil))))))))
            ((repeat' first | exact TLes.nil | refine TLes.cons (TLe.eq rfl) ?_ | refine TLes.cons (TLe.int ?_) ?_); (all_goals first | ((try (simp only [Zaa, kzz, kz11, kz12, maxL, Zab] at *)); exact Zal (by omega) (by omega)) | skip))
        · have hjl : j = g.blocks.length := by simp only [decide_eq_false_iff_not] at hb; omega
          clear hb
          subst hjl
          ((repeat' ((fail_if_success (show AWp _ _ _ (Code.region 15 _ _) _ _)); first | (refine Zac tok (by rfl) ?_; conv => whnf) | (refine @And.intro (Zaa _ _ _ _) _ ?_ ?_; rotate_left; (conv => whnf); rotate_right))); all_goals (try ((guard_target = Zaa _ _ _ _); refine Zae ?_; (first | refine And.intro (Zbx rfl ?_) ?_ | skip); (all_goals (try simp only [Zaa, kzz, kz11, kz12, maxL, Zab] at *)); all_goals omega)))
          refine Zaz (Weak.fam (tl := [(2, .bp (2, 0, 0) 0), (3, .bp (3, 0, 0) 0), (6, .rs (38, 0, 0) 1 0 m.funcs.length), (8, .bp (8, 0, 0) 0), (9, iv i)]) (hl := [((2, 0, 0), Zan [.nsl]), ((3, 0, 0), .row false 1 1 (fun _ => [.rs (101, 0, 0) 3 0 m.funcs.length])), ((101, 0, 0), .row true 3 m.funcs.length (fun q => Zai ((clrM m).funcs.getD q default))), ((38, 0, 0), .row true 1 m.funcs.length (fun q => [.bool (List.getD S q false)])), ((8, 0, 0), .row false 1 1 (fun _ => [.rs (102, 0, 0) 3 0 (outF S (clrM m).funcs i ++ [renF S g]).length])), ((102, 0, 0), .row true 3 (outF S (clrM m).funcs i ++ [renF S g]).length (fun q => Zai ((outF S (clrM m).funcs i ++ [renF S g]).getD q default)))]) (F := noH) [((102, 0, 0), some (136, 0, 0))] rfl (fun c hc => by simp only [tgts, List.mem_cons, List.not_mem_nil, or_false] at hc; rcases hc with rfl; exact .inl rfl) ?_ ?_ noF (fun i hi => by cases hi)) ?_
          · (repeat' first | exact TLg.nil | refine TLg.cons (GV.imm rfl) ?_ | refine TLg.cons (GV.bp rfl rfl) ?_ | refine TLg.cons (GV.rs rfl rfl ?_ ?_) ?_)
            all_goals rfl
          · refine .old rfl rfl (GB.one (GVs.imm rfl) (fun _ => rfl)) (.old rfl rfl (GB.one (.cons (.rs rfl rfl rfl rfl) .nil) (fun e => by cases e)) (.old rfl rfl (GB.rowI (Nat.le_refl _) (fun q hq => ⟨rfl, rfl⟩)) (.old rfl rfl (GB.rowI (Nat.le_refl _) (fun q hq => ⟨rfl, rfl⟩)) (.old rfl rfl (GB.one (.cons (.rs rfl rfl rfl (by simp)) .nil) (fun e => by cases e)) (.old rfl rfl (GB.row (Nat.le_of_eq (by simp)) (fun q hq => ?_) (fun _ _ _ => rfl)) .nil)))))
            rw [List.length_append] at hq
            refine GVs_app2 (K := fun l => Zbt (kill (102, 0, 0)) l) hq (fun hlt => GVs.eqI rfl ?_) (fun heq => ?_)
            · show Zai ((outF S (clrM m).funcs i).getD q default) = _
              simp only [List.getD_eq_getElem?_getD, List.getElem?_append_left hlt]
            · subst heq
              have e : (outF S (clrM m).funcs i ++ [renF S g]).getD (outF S (clrM m).funcs i).length default = renF S g := by
                simp only [List.getD_eq_getElem?_getD, List.getElem?_append_right (Nat.le_refl _), Nat.sub_self]; rfl
              rw [e]
              refine .cons (.imm rfl) (.cons (.imm rfl) (.cons (.frz (hd_no rfl) rfl (Nat.le_of_eq (Nat.zero_add _)) (List.length_map _).symm (fun x hx => GVs.eqI rfl ?_) (fun _ _ => rfl)) .nil))
              rw [Nat.zero_add]
              show Zam (renC S (g.blocks.getD x default)) = Zam ((g.blocks.map (renC S)).getD x default)
              rw [List.getD_eq_getElem?_getD (l := g.blocks.map (renC S)), List.getElem?_map, List.getElem?_eq_getElem hx, Zbh default hx]; rfl
          (repeat' (refine Zac tok (by rfl) ?_; conv => whnf))
          refine ⟨i + 1, hil, by omega, ?_⟩
          show Weak _ _ _ (mkS [(2, .bp (2, 0, 0) 0), (3, .bp (3, 0, 0) 0), (6, .rs (38, 0, 0) 1 0 m.funcs.length), (8, .bp (8, 0, 0) 0), (9, iv (i + 1))] [((2, 0, 0), Zan [.nsl]), ((3, 0, 0), .row false 1 1 (fun _ => [.rs (101, 0, 0) 3 0 m.funcs.length])), ((101, 0, 0), .row true 3 m.funcs.length (fun q => Zai ((clrM m).funcs.getD q default))), ((38, 0, 0), .row true 1 m.funcs.length (fun q => [.bool (List.getD S q false)])), ((8, 0, 0), .row false 1 1 (fun _ => [.rs (102, 0, 0) 3 0 (outF S (clrM m).funcs (i + 1)).length])), ((102, 0, 0), .row true 3 (outF S (clrM m).funcs (i + 1)).length (fun q => Zai ((outF S (clrM m).funcs (i + 1)).getD q default)))])
          rw [hyes]
          refine Weak.list [((2, 0, 0), .old (2, 0, 0), Zan [.nsl]), ((3, 0, 0), .old (3, 0, 0), .row false 1 1 (fun _ => [.rs (101, 0, 0) 3 0 m.funcs.length])), ((101, 0, 0), .old (101, 0, 0), .row true 3 m.funcs.length (fun q => Zai ((clrM m).funcs.getD q default))), ((38, 0, 0), .old (38, 0, 0), .row true 1 m.funcs.length (fun q => [.bool (List.getD S q false)])), ((8, 0, 0), .old (8, 0, 0), .row false 1 1 (fun _ => [.rs (102, 0, 0) 3 0 (outF S (clrM m).funcs i ++ [renF S g]).length])), ((102, 0, 0), .old (102, 0, 0), .row true 3 (outF S (clrM m).funcs i ++ [renF S g]).length (fun q => Zai ((outF S (clrM m).funcs i ++ [renF S g]).getD q default)))] rfl (by rfl) ?_ (.old rfl (BLe.refl _) (.old rfl (BLe.rowO rfl) (.old rfl (BLe.refl _) (.old rfl (BLe.refl _) (.old rfl (BLe.rowO rfl) (.old rfl (BLe.refl _) .nil))))))
          ((repeat' first | exact TLes.nil | refine TLes.cons (TLe.eq rfl) ?_ | refine TLes.cons (TLe.int ?_) ?_); (all_goals first | ((try (simp only [Zaa, kzz, kz11, kz12, maxL, Zab] at *)); exact Zal (by omega) (by omega)) | skip))
      · have hil : i = m.funcs.length := by simp only [decide_eq_false_iff_not] at hb; omega
        clear hb
        subst hil
        (repeat' first | (refine Zac tok (by rfl) ?_; conv => whnf) | (refine Zaj ?_; conv => whnf))
        exact ⟨_, rfl, Rel.agg (Rels.cons (Rel.row rfl rfl rfl (fun _ _ => rfl)) Rels.nil)⟩
end Go.Proofs.Ytmanpbgaihdalaa
namespace Go.Proofs.Ytmanpbgaihdalaa
open Go Dv
set_option maxRecDepth 10000
set_option linter.unusedSimpArgs false
def Zc4 (i : Nat) (g : Func) : Zaq := orH (Za6 [((1000, i, 0), blkR i g.blocks g.blocks.length (fun _ => .any))]) (famC 1001 (fun a q => bif Nat.beq a i && Nat.blt q g.blocks.length then some (insR (g.blocks.getD q default).ins) else none))
theorem many_eq (b : Zbk) : manyN b = Zc9 b := by
  unfold manyN Zc9 goalsL
  by_cases h2 : b.fin.kind = 2
  · simp [h2]
  · by_cases h3 : b.fin.kind = 3
    · simp [h3]
    · by_cases h4 : b.fin.kind = 4
      · simp [h4]
      · simp [h2, h3, h4]
theorem fit_ok (f : Func) (R : List Bool) (n : Nat) : fitAt f R n = okAt f R n := by
  unfold fitAt okAt; rw [many_eq]
theorem fits_iff {f : Func} : fitsB f (Fl.Zcb f) = true ↔ (allOk f (Fl.Zcb f) = true ∧ 0 < (Zbg f (Fl.Zcb f) f.blocks.length).length) := by
  have e : ((List.range f.blocks.length).all fun n => fitAt f (Fl.Zcb f) n) = allOk f (Fl.Zcb f) := by
    unfold allOk; congr 1; funext n; exact fit_ok f _ n
  unfold fitsB
  rw [e, Bool.and_eq_true, decide_eq_true_eq]
  refine and_congr_right fun _ => ⟨fun h => ?_, fun h => ?_⟩
  · have h0 : (Fl.Zcb f).getD 0 false = true := (Fl.reachB_get f 0).2 (.zero h)
    unfold Zbg
    rw [List.length_map]
    have : 0 ∈ Za7 (Fl.Zcb f) f.blocks.length := by
      unfold Za7; rw [List.mem_filter, List.mem_range]; exact ⟨h, h0⟩
    exact List.length_pos_of_mem this
  · have := keptB_le f (Fl.Zcb f) f.blocks.length
    omega
theorem ref13_no {f : Func} (h : fitsB f (Fl.Zcb f) = false) : Zbm f = f := by
  unfold Zbm; rw [if_neg (fun h2 => by rw [fits_iff.2 h2] at h; cases h)]
theorem ref13_yes {f : Func} (h : fitsB f (Fl.Zcb f) = true) : Zbm f = { f with blocks := Zbg f (Fl.Zcb f) f.blocks.length } := by
  unfold Zbm; rw [if_pos (fits_iff.1 h)]
theorem Zd1 {R : List Bool} {k q : Nat} (h : q < (Za7 R k).length) : (Za7 R k).getD q 0 < k := by
  rw [Zbh 0 h]
  have := List.getElem_mem h
  unfold Za7 at this
  have h2 := (List.mem_filter.1 this).1
  rw [List.mem_range] at h2
  exact h2
theorem keptN_le (R : List Bool) (k : Nat) : (Za7 R k).length ≤ k := by
  unfold Za7
  have := List.length_filter_le (fun n => R.getD n false) (List.range k)
  rw [List.length_range] at this
  exact this
theorem keptN_inj {R : List Bool} {k a b : Nat} (ha : a < (Za7 R k).length) (hb : b < (Za7 R k).length) (e : (Za7 R k).getD a 0 = (Za7 R k).getD b 0) : a = b := by
  rw [Zbh 0 ha, Zbh 0 hb] at e
  exact (List.getElem_inj (List.Pairwise.filter _ List.nodup_range)).1 e
theorem kept_lo {R : List Bool} {k q : Nat} (hr : R.getD k false = true) (h : q < (Za7 R k).length) : (Za7 R (k + 1)).getD q 0 = (Za7 R k).getD q 0 := by
  rw [Zfa hr]; simp [List.getD_eq_getElem?_getD, List.getElem?_append_left h]
theorem kept_hi {R : List Bool} {k : Nat} (hr : R.getD k false = true) : (Za7 R (k + 1)).getD (Za7 R k).length 0 = k := by
  rw [Zfa hr]; simp [List.getD_eq_getElem?_getD]
theorem Zex {R : List Bool} {k : Nat} (hr : R.getD k false = true) : (Za7 R (k + 1)).length = (Za7 R k).length + 1 := by
  rw [Zfa hr]; simp
theorem keptB_len (f : Func) (R : List Bool) (k : Nat) : (Zbg f R k).length = (Za7 R k).length := by unfold Zbg; rw [List.length_map]
theorem keptB_at {f : Func} {R : List Bool} {k q : Nat} (h : q < (Za7 R k).length) : (Zbg f R k).getD q default = renN R (f.blocks.getD ((Za7 R k).getD q 0) default) := by
  unfold Zbg
  rw [List.getD_eq_getElem?_getD, List.getElem?_map, List.getElem?_eq_getElem h, Zbh 0 h]; rfl
theorem kill1_blkR (l : List Zbk) : Dv.mapB (kill (910, 0, 0)) (blkR 0 l l.length (fun _ => .any)) = blkR 0 l l.length (fun _ => .any) := by
  unfold blkR Dv.mapB
  simp only [cond_false]
  congr 1
  funext q
  show [_, _, _, _, _, Zbp _ (sel _ _ _), _, _, _, _, _, _, _, _] = _
  rw [map_sel]; rfl
theorem named_mem {f : Func} {n : Nat} (hn : n < f.blocks.length) (h : (Fl.next f n).length = Zc9 (f.blocks.getD n default)) :
    (0 < Zc9 (f.blocks.getD n default) → (f.blocks.getD n default).fin.to ∈ Fl.next f n) ∧ ((f.blocks.getD n default).fin.kind = 3 → (f.blocks.getD n default).fin.els ∈ Fl.next f n) ∧ ((f.blocks.getD n default).fin.kind = 4 → (f.blocks.getD n default).fin.pad ∈ Fl.next f n) := by
  have hin : Fl.isIn f n = true := by unfold Fl.isIn; simp; omega
  have hnx : Fl.next f n = Fl.kept (fun k => !Fl.isIn f k) (Fl.nxt (f.blocks.getD n default)) := by
    unfold Fl.next; rw [if_pos hin]; rfl
  rw [hnx] at h ⊢
  generalize f.blocks.getD n default = b at h
  have hlen : (Fl.nxt b).length = Zc9 b := by
    unfold Fl.nxt Fl.Zdq Zc9
    by_cases h2 : b.fin.kind = 2
    · simp [h2]
    · by_cases h3 : b.fin.kind = 3
      · simp [h3]
      · by_cases h4 : b.fin.kind = 4
        · simp [h4]
        · simp [h2, h3, h4]
  have hall : Fl.kept (fun k => !Fl.isIn f k) (Fl.nxt b) = Fl.nxt b := by
    have := List.length_filter_eq_length_iff.1 (h.trans hlen.symm)
    exact List.filter_eq_self.2 this
  rw [hall]
  unfold Fl.nxt Fl.Zdq Zc9
  by_cases h2 : b.fin.kind = 2
  · simp [h2]
  · by_cases h3 : b.fin.kind = 3
    · simp [h3]
    · by_cases h4 : b.fin.kind = 4
      · simp [h4]
      · simp [h2, h3, h4]
def rdF (f : Func) : List Dv.Id := (1000, 0, 0) :: (List.range f.blocks.length).map fun q => (1001, 0, q)
theorem rdF_ins {f : Func} {q : Nat} (hq : q < f.blocks.length) : (1001, 0, q) ∈ rdF f := List.mem_cons_of_mem _ (List.mem_map.2 ⟨q, List.mem_range.2 hq, rfl⟩)
theorem res_fun {h : Zaq} {f : Func} (h1000 : h (1000, 0, 0) = some (blkR 0 f.blocks f.blocks.length (fun _ => .any)))
    (h1001 : ∀ q, q < f.blocks.length → h (1001, 0, q) = some (insR (f.blocks.getD q default).ins)) : Res h (rdF f) (.agg [iv f.params, iv f.regs, .rs (1000, 0, 0) 14 0 f.blocks.length]) (.agg (Zai f)) := by
  refine .agg (.cons (.imm rfl) (.cons (.imm rfl) (.cons (.rsN (imm := false) (k := f.blocks.length) (f := fun q => blkO (f.blocks.getD q default) (sel (Nat.blt q f.blocks.length) (.rs (1001, 0, q) 7 0 (f.blocks.getD q default).ins.length) .any)) h1000 List.mem_cons_self (Nat.le_of_eq (Nat.zero_add _)) rfl (fun q hq => ?_)) .nil)))
  rw [Nat.zero_add, Za0 hq]
  exact .cons (.imm rfl) (.cons (.imm rfl) (.cons (.imm rfl) (.cons (.imm rfl) (.cons (.imm rfl) (.cons (.rs (h1001 q hq) (rdF_ins hq) (Nat.le_of_eq (Nat.zero_add _)) rfl (fun x hx => by rw [Nat.zero_add])) (Ress.imms rfl))))))
theorem cp_blk (f : Func) : copyH [f] (1000, 0, 0) = some (blkR 0 f.blocks f.blocks.length (fun _ => .any)) := show treeF [f] 1 0 (1000, 0, 0) = _ from Zbr (by decide)
theorem cp_ins {f : Func} {q : Nat} (hq : q < f.blocks.length) : copyH [f] (1001, 0, q) = some (insR (f.blocks.getD q default).ins) := show treeF [f] 1 0 (1001, 0, q) = _ from Zbe (.inl ⟨by decide, hq⟩)
def srcI (o : Dv.Id) (σ : Nat → Nat) (j : Dv.Id) : Option Dv.Id := bif Nat.beq j.1 1000 then some o else some (1001, 0, σ j.2.2)
theorem Zdt {i : Nat} {g : Func} {j : Dv.Id} {b : Zap} (h : Zc4 i g j = some b) : (j = (1000, i, 0) ∧ b = blkR i g.blocks g.blocks.length (fun _ => .any)) ∨ ∃ q, j = (1001, i, q) ∧ q < g.blocks.length ∧ b = insR (g.blocks.getD q default).ins := by
  rcases Zfr h with e | ⟨_, e⟩
  · simp only [Za6] at e
    cases e2 : idEq (1000, i, 0) j with
    | false => rw [e2] at e; cases e
    | true => have := Za5.1 e2; subst this; rw [e2] at e; cases e; exact .inl ⟨rfl, rfl⟩
  · obtain ⟨a, q, rfl, h3⟩ := Zfd e
    cases e2 : (Nat.beq a i && Nat.blt q g.blocks.length) with
    | false => rw [e2] at h3; cases h3
    | true =>
      rw [e2] at h3
      rw [Bool.and_eq_true, Nat.blt_eq] at e2
      have := Nat.eq_of_beq_eq_true e2.1
      subst this
      exact .inr ⟨q, rfl, e2.2, (Option.some.inj h3).symm⟩
theorem treeI_blk {i : Nat} {g : Func} : Zc4 i g (1000, i, 0) = some (blkR i g.blocks g.blocks.length (fun _ => .any)) := by
  unfold Zc4 orH
  have : Za6 [((1000, i, 0), blkR i g.blocks g.blocks.length (fun _ => .any))] (1000, i, 0) = some (blkR i g.blocks g.blocks.length (fun _ => .any)) := by
    simp only [Za6]; rw [Za5.2 rfl]; rfl
  rw [this]
theorem treeI_ins {i : Nat} {g : Func} {q : Nat} (hq : q < g.blocks.length) : Zc4 i g (1001, i, q) = some (insR (g.blocks.getD q default).ins) := by
  refine orH_right ?_ ?_
  · simp only [Za6]; rw [Zbf.2 (fun e => by cases e)]; rfl
  · show (bif (Nat.beq i i && Nat.blt q g.blocks.length) then _ else none) = _
    have : (Nat.beq i i && Nat.blt q g.blocks.length) = true := by rw [Bool.and_eq_true, Nat.blt_eq]; exact ⟨by simp, hq⟩
    rw [this]; rfl
theorem bigH_at {dead : List Dv.Id} {u h : Zaq} {j : Dv.Id} {b : Zap} (e : u j = some b) : bigH dead u h j = some b := by unfold bigH; rw [e]
theorem leave_fn {i : Nat} {g : Func} {h : Zaq} {o : Dv.Id} {σ : Nat → Nat} (ho : o.1 ≠ 1001) (hσ : ∀ a b, a < g.blocks.length → b < g.blocks.length → σ a = σ b → a = b) {b0 : Zap} (h0 : h o = some b0)
    (h1 : GB (srcI o σ) h (Zc4 i g) b0 (blkR i g.blocks g.blocks.length (fun _ => .any))) (h2 : ∀ q, q < g.blocks.length → h (1001, 0, σ q) = some (insR (g.blocks.getD q default).ins)) :
    (∀ j j' k, (Zc4 i g j).isSome = true → (Zc4 i g j').isSome = true → srcI o σ j = some k → srcI o σ j' = some k → j = j') ∧ ∀ j b, Zc4 i g j = some b → HOk (srcI o σ) h (Zc4 i g) j b := by
  constructor
  · intro j j' k e1 e2 e3 e4
    cases f1 : Zc4 i g j with
    | none => rw [f1] at e1; cases e1
    | some b =>
      cases f2 : Zc4 i g j' with
      | none => rw [f2] at e2; cases e2
      | some b' =>
        rcases Zdt f1 with ⟨rfl, _⟩ | ⟨q, rfl, hq, _⟩ <;> rcases Zdt f2 with ⟨rfl, _⟩ | ⟨q', rfl, hq', _⟩
        · rfl
        · have a : some o = some k := e3
          have b : some (1001, 0, σ q') = some k := e4
          rw [← a] at b
          exact absurd (congrArg Prod.fst (Option.some.inj b)).symm ho
        · have a : some o = some k := e4
          have b : some (1001, 0, σ q) = some k := e3
          rw [← a] at b
          exact absurd (congrArg Prod.fst (Option.some.inj b)).symm ho
        · have a : some (1001, 0, σ q) = some k := e3
          have b : some (1001, 0, σ q') = some k := e4
          rw [← a] at b
          have := hσ q q' hq hq' (congrArg (fun x => x.2.2) (Option.some.inj b)).symm
          rw [this]
  · intro j b e
    rcases Zdt e with ⟨rfl, rfl⟩ | ⟨q, rfl, hq, rfl⟩
    · exact HOk.mk rfl h0 h1
    · exact HOk.mk (i := (1001, 0, σ q)) rfl (h2 q hq) (Zc7 _)
theorem Zbs (f : Func) : Zc4 0 f (1000, 0, 0) = some (blkR 0 f.blocks f.blocks.length (fun _ => .any)) := rfl
theorem Zbi {f : Func} {q : Nat} (hq : q < f.blocks.length) : Zc4 0 f (1001, 0, q) = some (insR (f.blocks.getD q default).ins) := treeI_ins hq
theorem Zd0 {src : Dv.Id → Option Dv.Id} {h h' : Zaq} {f : Func} (h1 : h (1000, 0, 0) = some (blkR 0 f.blocks f.blocks.length (fun _ => .any))) (h2 : ∀ q, q < f.blocks.length → h (1001, 0, q) = some (insR (f.blocks.getD q default).ins))
    (h3 : ∀ q, q < f.blocks.length → h' (1001, 0, q) = some (insR (f.blocks.getD q default).ins)) (hs : ∀ a b, src (1000, a, b) = some (1000, a, b) ∧ src (1001, a, b) = some (1001, a, b)) : ∀ j b, Zc4 0 f j = some b → HOk src h h' j b := by
  intro j b e
  rcases Zdt e with ⟨rfl, rfl⟩ | ⟨q, rfl, hq, rfl⟩
  · exact HOk.mk (hs 0 0).1 h1 (Zcq (fun q hq => .cc (Za0 hq) (Za0 hq) (.rs (h3 q hq) (hs 0 q).2 rfl rfl)))
  · exact HOk.mk (hs 0 q).2 (h2 q hq) (Zc7 _)
set_option maxHeartbeats 4000000 in
theorem c_dFunc (i : Nat) (f : Func) : HF Try.prog 59 [.agg (Zai f)] (.agg [iv (Zbm f).params, iv (Zbm f).regs, .rs (1000, i, 0) 14 0 (Zbm f).blocks.length]) (Zc4 i (Zbm f)) := by
  refine HF_intro tok Try.func59 rfl (by decide +kernel) (Nat.le_of_ble_eq_true rfl) ?_
  refine Zat 0 (fun hl => ?_)
  have hmx : maxL = 4294967296 := rfl
  have hl0 : f.blocks.length ≤ maxL := hl.2.2.1.1
  clear hl
  (repeat' first | refine Zad ?_ | (refine Zac tok (by rfl) ?_; conv => whnf))
  refine .inr ⟨_, _, _, uG (QH.giveF (rd := [(10, 0, 0)]) (c_Copy [f]) (.cons (.agg (.cons (.rsN rfl (List.mem_singleton.2 rfl) (Nat.le_refl _) rfl (ltS (Ress.imms rfl) lt0)) .nil)) .nil) (fun i hi => by rcases copyH_dom hi with rfl | ⟨j, rfl⟩ | ⟨j, q, rfl⟩ <;> rfl)), ?_⟩
  conv => whnf
  have hone : [f].length = 1 := rfl
  ((repeat' ((fail_if_success (show AWp _ _ _ (Code.region 2 _ _) _ _)); first | refine Zad ?_ | (refine @And.intro (Zaa _ _ _ _) _ ?_ ?_; rotate_left; (conv => whnf); rotate_right))); all_goals (try ((guard_target = Zaa _ _ _ _); refine Zae ?_; (all_goals (try simp only [Zaa, kzz, kz11, kz12, maxL, Zab] at *)); all_goals omega)))
  have hc1 := cp_blk f
  have hc2 : ∀ q, q < f.blocks.length → copyH [f] (1001, 0, q) = some (insR (f.blocks.getD q default).ins) := fun q hq => cp_ins hq
  refine Zaz (Weak.fam (L := []) (tl := [(1, .bp (1, 0, 0) 0), (2, .bp (2, 0, 0) 0)]) (hl := [((1, 0, 0), .row false 3 1 (fun _ => [iv f.params, iv f.regs, .rs (1000, 0, 0) 14 0 f.blocks.length])), ((2, 0, 0), Zan [iv 0, iv 0, .nsl])]) (F := (Zc4 0 f)) [] rfl (fun c hc => by cases hc) ?_ ?_ ?_ (fun i hi => by cases hi)) ?_
  · (repeat' first | exact TLg.nil | refine TLg.cons (GV.bp rfl rfl) ?_)
    all_goals rfl
  · refine (.old rfl rfl (GB.one ?_ (fun e => by cases e)) (.old rfl rfl (GB.one (GVs.imm rfl) (fun _ => rfl)) .nil))
    exact .cons (.imm rfl) (.cons (.imm rfl) (.cons (.rs (Zbs f) rfl rfl rfl) .nil))
  · refine Zd0 ?_ (fun q hq => ?_) (fun q hq => Zbi hq) (fun _ _ => ⟨rfl, rfl⟩)
    · dsimp only [updH, bigH]
      rw [hc1]; rfl
    · dsimp only [updH, bigH]
      rw [hc2 q hq]; rfl
  (repeat' (refine Zac tok (by rfl) ?_; conv => whnf))
  refine .inl ⟨_, _, _, uG (QC.fo (rd := rdF f) (Fl.fo22 f) (.cons (res_fun (Zbs f) (fun q hq => Zbi hq)) .nil) (.inr (fun _ _ => rfl)) rfl), ?_⟩
  conv => whnf
  have hRl := Fl.Zek f
  have hR0 : ∀ n k, n < f.blocks.length → (Fl.Zcb f).getD n false = true → k ∈ Fl.next f n → (Fl.Zcb f).getD k.toNat false = true := fun n k _ h hk => (Fl.reachB_get f _).2 (.step ((Fl.reachB_get f n).1 h) hk)
  have hry := ref13_yes (f := f)
  have hrn := ref13_no (f := f)
  have hwr := Fl.walked_reach f
  have hgen : ∃ R, Fl.Zcb f = R := ⟨_, rfl⟩
  obtain ⟨R, hR⟩ := hgen
  simp only [hR] at hRl hR0 hry hrn hwr
  (repeat' ((fail_if_success (show AWp _ _ _ (Code.region 3 _ _) _ _)); refine Zad ?_))
  refine Zaz (Weak.fam (L := []) (tl := [(1, .bp (1, 0, 0) 0), (2, .bp (2, 0, 0) 0), (3, Zea R)]) (hl := [((1, 0, 0), .row false 3 1 (fun _ => [iv f.params, iv f.regs, .rs (1000, 0, 0) 14 0 f.blocks.length])), ((2, 0, 0), Zan [iv 0, iv 0, .nsl])]) (F := (Zc4 0 f)) [] rfl (fun c hc => by cases hc) ?_ ?_ ?_ (fun i hi => by cases hi)) ?_
  · refine .cons (.bp rfl rfl) (.cons (.bp rfl rfl) (.cons (.frz (hd_of rfl (fun j hj e => by cases e; cases hj)) rfl (Nat.le_of_eq (Nat.zero_add _)) hRl.symm (fun x hx => GVs.eqI rfl (by rw [Nat.zero_add, hwr])) (fun _ _ => rfl)) .nil))
  · refine (.old rfl rfl (GB.one ?_ (fun e => by cases e)) (.old rfl rfl (GB.one (GVs.imm rfl) (fun _ => rfl)) .nil))
    exact .cons (.imm rfl) (.cons (.imm rfl) (.cons (.rs (Zbs f) rfl rfl rfl) .nil))
  · exact Zd0 (Zbs f) (fun q hq => Zbi hq) (fun q hq => Zbi hq) (fun _ _ => ⟨rfl, rfl⟩)
  (repeat' (refine Zac tok (by rfl) ?_; conv => whnf))
  refine .inl ⟨_, _, _, uG (QC.sc (rd := rdF f) (c_fits f R hRl) (.cons (res_fun (Zbs f) (fun q hq => Zbi hq)) (.cons (.imm rfl) .nil)) rfl), ?_⟩
  conv => whnf
  (repeat' first | refine Zad ?_ | (refine Zac tok (by rfl) ?_; conv => whnf) | (refine Zah ?_; conv => whnf) | (refine Zaj ?_; conv => whnf) | refine Zag rfl (fun hb => ?_) (fun hb => ?_))
  · have hf : fitsB f R = false := by simpa using hb
    rw [hrn hf]
    refine ⟨_, srcI (1000, 0, 0) (fun q => q), rfl, (leave_fn (i := i) (g := f) (h := Zc4 0 f) (o := (1000, 0, 0)) (σ := fun q => q) (by decide) (fun a b _ _ e => e) (Zbs f) (Zcq (fun q hq => .cc (Za0 hq) (Za0 hq) (.rs (treeI_ins hq) rfl rfl rfl))) (fun q hq => Zbi hq)).1,
      (leave_fn (b0 := blkR 0 f.blocks f.blocks.length (fun _ => .any)) (by decide) (fun a b _ _ e => e) ?_ (Zcq (fun q hq => .cc (Za0 hq) (Za0 hq) (.rs (treeI_ins hq) rfl rfl rfl))) ?_).2, .agg (.cons (.imm rfl) (.cons (.imm rfl) (.cons (.rs treeI_blk rfl rfl rfl) .nil)))⟩
    · exact Zbs f
    · exact fun q hq => Zbi hq
  have hf : fitsB f R = true := by simpa using hb
  clear hb
  have hok0 : allOk f R = true := by
    have h := (fits_iff (f := f)).1
    rw [hR] at h
    exact (h hf).1
  rw [hry hf]
  refine .inl ⟨_, _, _, uG (QC.fc (c_anew R) rfl), ?_⟩
  conv => whnf
  (repeat' first | refine Zad ?_ | (refine Zac tok (by rfl) ?_; conv => whnf) | refine Zaf ?_)
  refine Zas (fun k : Nat => mkF [(1, .bp (1, 0, 0) 0), (2, .bp (2, 0, 0) 0), (3, Zea R), (4, ints (Zb7 R)), (5, .rs (910, 0, 0) 14 0 (Za7 R k).length), (26, .rs (1000, 0, 0) 14 0 f.blocks.length), (27, iv f.blocks.length), (28, iv k)] [((1, 0, 0), .row false 3 1 (fun _ => [iv f.params, iv f.regs, .rs (1000, 0, 0) 14 0 f.blocks.length])), ((2, 0, 0), Zan [iv 0, iv 0, .nsl]), ((910, 0, 0), .row false 14 (Za7 R k).length (fun q => blkO (renN R (f.blocks.getD ((Za7 R k).getD q 0) default)) (.rs (1001, 0, (Za7 R k).getD q 0) 7 0 (f.blocks.getD ((Za7 R k).getD q 0) default).ins.length)))] (Zc4 0 f)) (fun k => k ≤ f.blocks.length) (fun k => f.blocks.length - k) 0 (Nat.zero_le _) ?_ ?_
  · refine Weak.fam [((910, 0, 0), none)] rfl (fun i hi => by cases hi) ?_ ?_ ?_ (fun i hi => by cases hi)
    · exact .cons (.bp rfl rfl) (.cons (.bp rfl rfl) (.cons (.imm rfl) (.cons (.imm rfl) (.cons (.nil rfl rfl rfl) (.cons (.rs (Zbs f) rfl rfl rfl) (.cons (.imm rfl) (.cons (.imm rfl) .nil)))))))
    · refine (.old rfl rfl (GB.one ?_ (fun e => by cases e)) (.old rfl rfl (GB.one (GVs.imm rfl) (fun _ => rfl)) (.new rfl .nil)))
      exact .cons (.imm rfl) (.cons (.imm rfl) (.cons (.rs (Zbs f) rfl rfl rfl) .nil))
    · exact Zd0 (Zbs f) (fun q hq => Zbi hq) (fun q hq => Zbi hq) (fun _ _ => ⟨rfl, rfl⟩)
  intro k hk
  (repeat' ((fail_if_success (show AWp _ _ _ (Code.region 9 _ _) _ _)); (fail_if_success (show AWp _ _ _ (Code.region 21 _ _) _ _)); first | refine Zad ?_ | (refine Zac tok (by rfl) ?_; conv => whnf) | refine Zaf ?_ | (refine Zah ?_; conv => whnf) | (refine Zar ?_; conv => whnf) | refine Zag rfl (fun hb => ?_) (fun hb => ?_)))
  · have hkl : k < f.blocks.length := by simp only [decide_eq_true_eq] at hb; omega
    clear hb
    have hgen : ∃ b, f.blocks.getD k default = b := ⟨_, rfl⟩
    obtain ⟨b, hbk⟩ := hgen
    ((repeat' ((fail_if_success (show AWp _ _ _ (Code.region 10 _ _) _ _)); first | (refine Zac tok (by rfl) ?_; conv => whnf) | (refine @And.intro (Zaa _ _ _ _) _ ?_ ?_; rotate_left; (conv => whnf); rotate_right))); all_goals (try ((guard_target = Zaa _ _ _ _); refine Zae ?_; (all_goals (try simp only [Zaa, kzz, kz11, kz12, maxL, Zab] at *)); all_goals omega)))
    have hzk : 0 + (k : Int).toNat = k := by simp
    refine fAV (y := .rs (1001, 0, k) 7 0 b.ins.length) ?_ ?_
    · show sel (Nat.blt (0 + (k : Int).toNat) f.blocks.length) (.rs (1001, 0, 0 + (k : Int).toNat) 7 0 (f.blocks.getD (0 + (k : Int).toNat) default).ins.length) _ = _
      rw [hzk, Za0 hkl, hbk]
    conv => whnf
    (repeat' ((fail_if_success (show AWp _ _ _ (Code.region 10 _ _) _ _)); refine Zad ?_))
    refine Zaz (Weak.fam (L := []) (tl := [(1, .bp (1, 0, 0) 0), (2, .bp (2, 0, 0) 0), (3, Zea R), (4, ints (Zb7 R)), (5, .rs (910, 0, 0) 14 0 (Za7 R k).length), (6, iv k), (7, .bp (7, 0, 0) 0), (26, .rs (1000, 0, 0) 14 0 f.blocks.length), (27, iv f.blocks.length), (28, iv k)]) (hl := [((1, 0, 0), .row false 3 1 (fun _ => [iv f.params, iv f.regs, .rs (1000, 0, 0) 14 0 f.blocks.length])), ((2, 0, 0), Zan [iv 0, iv 0, .nsl]), ((910, 0, 0), .row false 14 (Za7 R k).length (fun q => blkO (renN R (f.blocks.getD ((Za7 R k).getD q 0) default)) (.rs (1001, 0, (Za7 R k).getD q 0) 7 0 (f.blocks.getD ((Za7 R k).getD q 0) default).ins.length))), ((7, 0, 0), .row false 14 1 (fun _ => blkO b (.rs (1001, 0, k) 7 0 b.ins.length)))]) (F := (Zc4 0 f)) [] rfl (fun c hc => by cases hc) ?_ ?_ ?_ (fun i hi => by cases hi)) ?_
    · exact .cons (.bp rfl rfl) (.cons (.bp rfl rfl) (.cons (.imm rfl) (.cons (.imm rfl) (.cons (.rs rfl rfl rfl rfl) (.cons (.imm rfl) (.cons (.bp rfl rfl) (.cons (.rs (Zbs f) rfl rfl rfl) (.cons (.imm rfl) (.cons (.imm rfl) .nil)))))))))
    · refine (.old rfl rfl (GB.one ?_ (fun e => by cases e)) (.old rfl rfl (GB.one (GVs.imm rfl) (fun _ => rfl)) (.old rfl rfl (GB.row (Nat.le_refl _) (fun q hq => ?_) (fun e => by cases e)) (.old rfl rfl (GB.one ?_ (fun e => by cases e)) .nil))))
      · exact .cons (.imm rfl) (.cons (.imm rfl) (.cons (.rs (Zbs f) rfl rfl rfl) .nil))
      · exact Zb8 (.rs (Zbi (Nat.lt_of_lt_of_le (Zd1 hq) hk)) rfl rfl rfl)
      · show GVs _ _ _ (blkO (f.blocks.getD (0 + (k : Int).toNat) default) (.rs (1001, 0, k) 7 0 b.ins.length)) (blkO b (.rs (1001, 0, k) 7 0 b.ins.length))
        rw [hzk, hbk]
        exact Zb8 (.rs (Zbi hkl) rfl rfl rfl)
    · exact Zd0 (Zbs f) (fun q hq => Zbi hq) (fun q hq => Zbi hq) (fun _ _ => ⟨rfl, rfl⟩)
    have hal := anewL_len R
    have hfk : R.getD k false = true → (b.fin.kind = 2 → 0 ≤ b.fin.to ∧ b.fin.to < R.length ∧ (Zb7 R).getD b.fin.to.toNat 0 = numB R b.fin.to.toNat) ∧ (b.fin.kind = 3 → 0 ≤ b.fin.to ∧ b.fin.to < R.length ∧ (Zb7 R).getD b.fin.to.toNat 0 = numB R b.fin.to.toNat ∧ 0 ≤ b.fin.els ∧ b.fin.els < R.length ∧ (Zb7 R).getD b.fin.els.toNat 0 = numB R b.fin.els.toNat) ∧
        (b.fin.kind = 4 → 0 ≤ b.fin.to ∧ b.fin.to < R.length ∧ (Zb7 R).getD b.fin.to.toNat 0 = numB R b.fin.to.toNat ∧ 0 ≤ b.fin.pad ∧ b.fin.pad < R.length ∧ (Zb7 R).getD b.fin.pad.toNat 0 = numB R b.fin.pad.toNat) := by
      intro hr1
      have hok := (List.all_eq_true.1 hok0) k (List.mem_range.2 hkl)
      unfold okAt at hok
      rw [hr1] at hok
      simp only [cond_true, decide_eq_true_eq] at hok
      have hok' : (Fl.next f k).length = Zc9 (f.blocks.getD k default) := by exact_mod_cast hok
      have n1 := named_in hkl hok'
      have n2 := named_mem hkl hok'
      rw [hbk] at n1 n2
      have hv : ∀ x : Int, 0 ≤ x → x < R.length → x ∈ Fl.next f k → (Zb7 R).getD x.toNat 0 = numB R x.toNat := fun x h0 h1 h2 => by
        rw [anewL_at (by omega), if_pos (hR0 k x hkl hr1 h2)]
      have m2 : b.fin.kind = 2 ∨ b.fin.kind = 3 ∨ b.fin.kind = 4 → 0 < Zc9 b := by
        unfold Zc9; rintro (h | h | h) <;> simp [h]
      refine ⟨fun h => ?_, fun h => ?_, fun h => ?_⟩
      · obtain ⟨a1, a2⟩ := n1.1 (m2 (.inl h))
        exact ⟨a1, by omega, hv _ a1 (by omega) (n2.1 (m2 (.inl h)))⟩
      · obtain ⟨a1, a2⟩ := n1.1 (m2 (.inr (.inl h)))
        obtain ⟨a3, a4⟩ := n1.2.1 h
        exact ⟨a1, by omega, hv _ a1 (by omega) (n2.1 (m2 (.inr (.inl h)))), a3, by omega, hv _ a3 (by omega) (n2.2.1 h)⟩
      · obtain ⟨a1, a2⟩ := n1.1 (m2 (.inr (.inr h)))
        obtain ⟨a3, a4⟩ := n1.2.2 h
        exact ⟨a1, by omega, hv _ a1 (by omega) (n2.1 (m2 (.inr (.inr h)))), a3, by omega, hv _ a3 (by omega) (n2.2.2 h)⟩
    ((repeat' ((fail_if_success (show AWp _ _ _ (Code.region 11 _ _) _ _)); first | refine Zad ?_ | (refine Zac tok (by rfl) ?_; conv => whnf) | (refine Zah ?_; conv => whnf) | (refine Zar ?_; conv => whnf) | refine Zag rfl (fun hb => ?_) (fun hb => ?_) | (refine @And.intro (Zaa _ _ _ _) _ ?_ ?_; rotate_left; (conv => whnf); rotate_right))); all_goals (try ((guard_target = Zaa _ _ _ _); refine Zae ?_; (all_goals (try simp only [Zaa, kzz, kz11, kz12, maxL, Zab] at *)); all_goals omega)))
    · have hr0 : R.getD k false = false := by simpa using hb
      clear hb
      refine ⟨k + 1, hkl, by omega, ?_⟩
      refine Weak.fam [] rfl (fun i hi => by cases hi) ?_ ?_ ?_ (fun i hi => by cases hi)
      · exact .cons (.bp rfl rfl) (.cons (.bp rfl rfl) (.cons (.imm rfl) (.cons (.imm rfl) (.cons (.rs rfl rfl rfl (by rw [Zef hr0])) (.cons (.rs (Zbs f) rfl rfl rfl) (.cons (.imm rfl) (.cons (.int (by rw [Zal (by omega) (by omega)]; rfl)) .nil)))))))
      · refine (.old rfl rfl (GB.one (.cons (.imm rfl) (.cons (.imm rfl) (.cons (.rs (Zbs f) rfl rfl rfl) .nil))) (fun e => by cases e)) (.old rfl rfl (GB.one (GVs.imm rfl) (fun _ => rfl)) (.old rfl rfl (GB.row (Nat.le_of_eq (by rw [Zef hr0])) (fun q hq => ?_) (fun e => by cases e)) .nil)))
        rw [Zef hr0] at hq ⊢
        exact Zb8 (.rs (Zbi (Nat.lt_of_lt_of_le (Zd1 hq) hk)) rfl rfl rfl)
      · exact Zd0 (Zbs f) (fun q hq => Zbi hq) (fun q hq => Zbi hq) (fun _ _ => ⟨rfl, rfl⟩)
    · have hr1 : R.getD k false = true := by simpa using hb
      clear hb
      obtain ⟨hk2, hk3, hk4⟩ := hfk hr1
      clear hfk
      have hkn := keptN_le R k
      (repeat' first | refine Zad ?_ | (refine Zac tok (by rfl) ?_; conv => whnf))
      refine Zb1 (α := Unit) (fun _ => mkF [(1, .bp (1, 0, 0) 0), (2, .bp (2, 0, 0) 0), (3, Zea R), (4, ints (Zb7 R)), (5, .rs (910, 0, 0) 14 0 (Za7 R k).length), (6, iv k), (7, .bp (7, 0, 0) 0), (26, .rs (1000, 0, 0) 14 0 f.blocks.length), (27, iv f.blocks.length), (28, iv k)] [((1, 0, 0), .row false 3 1 (fun _ => [iv f.params, iv f.regs, .rs (1000, 0, 0) 14 0 f.blocks.length])), ((2, 0, 0), Zan [iv 0, iv 0, .nsl]), ((910, 0, 0), .row false 14 (Za7 R k).length (fun q => blkO (renN R (f.blocks.getD ((Za7 R k).getD q 0) default)) (.rs (1001, 0, (Za7 R k).getD q 0) 7 0 (f.blocks.getD ((Za7 R k).getD q 0) default).ins.length))), ((7, 0, 0), .row false 14 1 (fun _ => blkO (renN R b) (.rs (1001, 0, k) 7 0 b.ins.length)))] (Zc4 0 f)) (fun _ => True) ?_ ?_
      · ((repeat' first | refine Zad ?_ | (refine Zac tok (by rfl) ?_; conv => whnf) | (refine Za3 tok mix (by rfl) ?_; conv => whnf) | refine Zaf ?_ | (refine Zah ?_; conv => whnf) | (refine Zar ?_; conv => whnf) | refine Zag rfl (fun hb => ?_) (fun hb => ?_) | (refine @And.intro (Zaa _ _ _ _) _ ?_ ?_; rotate_left; (conv => whnf); rotate_right)); all_goals (try ((guard_target = Zaa _ _ _ _); refine Zae ?_; (all_goals (try simp only [Zaa, kzz, kz11, kz12, maxL, Zab] at *)); all_goals omega)))
        · have h4 : b.fin.kind = 4 := by simpa using hb
          obtain ⟨a1, a2, a3, a4, a5, a6⟩ := hk4 h4
          refine ⟨(), trivial, Weak.fam [] rfl (fun i hi => by cases hi) ?_ ?_ ?_ (fun i hi => by cases hi)⟩
          · exact .cons (.bp rfl rfl) (.cons (.bp rfl rfl) (.cons (.imm rfl) (.cons (.imm rfl) (.cons (.rs rfl rfl rfl rfl) (.cons (.imm rfl) (.cons (.bp rfl rfl) (.cons (.rs (Zbs f) rfl rfl rfl) (.cons (.imm rfl) (.cons (.imm rfl) .nil)))))))))
          · refine (.old rfl rfl (GB.one (.cons (.imm rfl) (.cons (.imm rfl) (.cons (.rs (Zbs f) rfl rfl rfl) .nil))) (fun e => by cases e)) (.old rfl rfl (GB.one (GVs.imm rfl) (fun _ => rfl)) (.old rfl rfl (GB.row (Nat.le_refl _) (fun q hq => ?_) (fun e => by cases e)) (.old rfl rfl (GB.one ?_ (fun e => by cases e)) .nil))))
            · exact Zb8 (.rs (Zbi (Nat.lt_of_lt_of_le (Zd1 hq) hk)) rfl rfl rfl)
            · have e : renN R b = { b with fin := { b.fin with to := (Zb7 R).getD b.fin.to.toNat 0, pad := (Zb7 R).getD b.fin.pad.toNat 0 } } := by
                unfold renN ren3 ren2 ren1 Zc9; rw [a3, a6]; simp [h4]
              rw [e]
              show GVs _ _ _ (blkO ({ b with fin := { b.fin with to := (Zb7 R).getD b.fin.to.toNat 0, pad := (Zb7 R).getD b.fin.pad.toNat 0 } }) (.rs (1001, 0, k) 7 0 b.ins.length)) _
              exact Zb8 (.rs (Zbi hkl) rfl rfl rfl)
          · exact Zd0 (Zbs f) (fun q hq => Zbi hq) (fun q hq => Zbi hq) (fun _ _ => ⟨rfl, rfl⟩)
        · have h2 : b.fin.kind = 2 := by simpa using hb
          obtain ⟨a1, a2, a3⟩ := hk2 h2
          refine ⟨(), trivial, Weak.fam [] rfl (fun i hi => by cases hi) ?_ ?_ ?_ (fun i hi => by cases hi)⟩
          · exact .cons (.bp rfl rfl) (.cons (.bp rfl rfl) (.cons (.imm rfl) (.cons (.imm rfl) (.cons (.rs rfl rfl rfl rfl) (.cons (.imm rfl) (.cons (.bp rfl rfl) (.cons (.rs (Zbs f) rfl rfl rfl) (.cons (.imm rfl) (.cons (.imm rfl) .nil)))))))))
          · refine (.old rfl rfl (GB.one (.cons (.imm rfl) (.cons (.imm rfl) (.cons (.rs (Zbs f) rfl rfl rfl) .nil))) (fun e => by cases e)) (.old rfl rfl (GB.one (GVs.imm rfl) (fun _ => rfl)) (.old rfl rfl (GB.row (Nat.le_refl _) (fun q hq => ?_) (fun e => by cases e)) (.old rfl rfl (GB.one ?_ (fun e => by cases e)) .nil))))
            · exact Zb8 (.rs (Zbi (Nat.lt_of_lt_of_le (Zd1 hq) hk)) rfl rfl rfl)
            · have e : renN R b = { b with fin := { b.fin with to := (Zb7 R).getD b.fin.to.toNat 0 } } := by
                unfold renN ren3 ren2 ren1 Zc9; rw [a3]; simp [h2]
              rw [e]
              show GVs _ _ _ (blkO ({ b with fin := { b.fin with to := (Zb7 R).getD b.fin.to.toNat 0 } }) (.rs (1001, 0, k) 7 0 b.ins.length)) _
              exact Zb8 (.rs (Zbi hkl) rfl rfl rfl)
          · exact Zd0 (Zbs f) (fun q hq => Zbi hq) (fun q hq => Zbi hq) (fun _ _ => ⟨rfl, rfl⟩)
        · have h3 : b.fin.kind = 3 := by simpa using hb
          obtain ⟨a1, a2, a3, a4, a5, a6⟩ := hk3 h3
          refine ⟨(), trivial, Weak.fam [] rfl (fun i hi => by cases hi) ?_ ?_ ?_ (fun i hi => by cases hi)⟩
          · exact .cons (.bp rfl rfl) (.cons (.bp rfl rfl) (.cons (.imm rfl) (.cons (.imm rfl) (.cons (.rs rfl rfl rfl rfl) (.cons (.imm rfl) (.cons (.bp rfl rfl) (.cons (.rs (Zbs f) rfl rfl rfl) (.cons (.imm rfl) (.cons (.imm rfl) .nil)))))))))
          · refine (.old rfl rfl (GB.one (.cons (.imm rfl) (.cons (.imm rfl) (.cons (.rs (Zbs f) rfl rfl rfl) .nil))) (fun e => by cases e)) (.old rfl rfl (GB.one (GVs.imm rfl) (fun _ => rfl)) (.old rfl rfl (GB.row (Nat.le_refl _) (fun q hq => ?_) (fun e => by cases e)) (.old rfl rfl (GB.one ?_ (fun e => by cases e)) .nil))))
            · exact Zb8 (.rs (Zbi (Nat.lt_of_lt_of_le (Zd1 hq) hk)) rfl rfl rfl)
            · have e : renN R b = { b with fin := { b.fin with to := (Zb7 R).getD b.fin.to.toNat 0, els := (Zb7 R).getD b.fin.els.toNat 0 } } := by
                unfold renN ren3 ren2 ren1 Zc9; rw [a3, a6]; simp [h3]
              rw [e]
              show GVs _ _ _ (blkO ({ b with fin := { b.fin with to := (Zb7 R).getD b.fin.to.toNat 0, els := (Zb7 R).getD b.fin.els.toNat 0 } }) (.rs (1001, 0, k) 7 0 b.ins.length)) _
              exact Zb8 (.rs (Zbi hkl) rfl rfl rfl)
          · exact Zd0 (Zbs f) (fun q hq => Zbi hq) (fun q hq => Zbi hq) (fun _ _ => ⟨rfl, rfl⟩)
        · rename_i hb4 hb2
          have h3 : ¬ b.fin.kind = 3 := by simpa using hb
          have h4 : ¬ b.fin.kind = 4 := by simpa using hb4
          have h2 : ¬ b.fin.kind = 2 := by simpa using hb2
          refine ⟨(), trivial, Weak.fam [] rfl (fun i hi => by cases hi) ?_ ?_ ?_ (fun i hi => by cases hi)⟩
          · exact .cons (.bp rfl rfl) (.cons (.bp rfl rfl) (.cons (.imm rfl) (.cons (.imm rfl) (.cons (.rs rfl rfl rfl rfl) (.cons (.imm rfl) (.cons (.bp rfl rfl) (.cons (.rs (Zbs f) rfl rfl rfl) (.cons (.imm rfl) (.cons (.imm rfl) .nil)))))))))
          · refine (.old rfl rfl (GB.one (.cons (.imm rfl) (.cons (.imm rfl) (.cons (.rs (Zbs f) rfl rfl rfl) .nil))) (fun e => by cases e)) (.old rfl rfl (GB.one (GVs.imm rfl) (fun _ => rfl)) (.old rfl rfl (GB.row (Nat.le_refl _) (fun q hq => ?_) (fun e => by cases e)) (.old rfl rfl (GB.one ?_ (fun e => by cases e)) .nil))))
            · exact Zb8 (.rs (Zbi (Nat.lt_of_lt_of_le (Zd1 hq) hk)) rfl rfl rfl)
            · have e : renN R b = b := by
                unfold renN ren3 ren2 ren1 Zc9; simp [h2, h3, h4]
              rw [e]
              show GVs _ _ _ (blkO b (.rs (1001, 0, k) 7 0 b.ins.length)) _
              exact Zb8 (.rs (Zbi hkl) rfl rfl rfl)
          · exact Zd0 (Zbs f) (fun q hq => Zbi hq) (fun q hq => Zbi hq) (fun _ _ => ⟨rfl, rfl⟩)
      rintro ⟨⟩ - τ hw
      refine Zaz hw ?_
      clear hw
      ((repeat' first | (refine Zac tok (by rfl) ?_; conv => whnf) | (refine @And.intro (Zaa _ _ _ _) _ ?_ ?_; rotate_left; (conv => whnf); rotate_right)); all_goals (try ((guard_target = Zaa _ _ _ _); refine Zae ?_; (first | refine And.intro (Zbx rfl ?_) ?_ | skip); (all_goals (try simp only [Zaa, kzz, kz11, kz12, maxL, Zab] at *)); all_goals omega)))
      refine ⟨k + 1, hkl, by omega, ?_⟩
      refine Weak.fam [((910, 0, 0), some (92, 0, 0))] rfl (fun c hc => by simp only [tgts, List.mem_singleton] at hc; subst hc; exact .inl rfl) ?_ ?_ ?_ (fun i hi => by cases hi)
      · exact .cons (.bp rfl rfl) (.cons (.bp rfl rfl) (.cons (.imm rfl) (.cons (.imm rfl) (.cons (.rs rfl rfl rfl (Zex hr1).symm) (.cons (.rs (Zbs f) rfl rfl rfl) (.cons (.imm rfl) (.cons (.int (by rw [Zal (by omega) (by omega)]; rfl)) .nil)))))))
      · refine (.old rfl rfl (GB.one (.cons (.imm rfl) (.cons (.imm rfl) (.cons (.rs (Zbs f) rfl rfl rfl) .nil))) (fun e => by cases e)) (.old rfl rfl (GB.one (GVs.imm rfl) (fun _ => rfl)) (.old rfl rfl (GB.row (Nat.le_of_eq (Zex hr1)) (fun q hq => ?_) (fun e => by cases e)) .nil)))
        rw [Zex hr1] at hq
        refine GVs_app2 (K := fun l => Zbt (kill (910, 0, 0)) l) hq (fun hlt => ?_) (fun heq => ?_)
        · rw [kept_lo hr1 hlt]
          exact Zb8 (.rs (Zbi (Nat.lt_of_lt_of_le (Zd1 hlt) hk)) rfl rfl rfl)
        · subst heq
          rw [kept_hi hr1, hbk]
          exact Zb8 (.rs (Zbi hkl) rfl rfl rfl)
      · refine Zd0 ?_ (fun q hq => ?_) (fun q hq => Zbi hq) (fun _ _ => ⟨rfl, rfl⟩)
        · show Option.map _ (Zc4 0 f (1000, 0, 0)) = _
          rw [Zbs f]; exact congrArg some (kill1_blkR _)
        · show Option.map _ (Zc4 0 f (1001, 0, q)) = _
          rw [Zbi hq]; rfl
  · have hkl : k = f.blocks.length := by simp only [decide_eq_false_iff_not] at hb; omega
    clear hb
    subst hkl
    (repeat' first | refine Zad ?_ | (refine Zac tok (by rfl) ?_; conv => whnf) | (refine Zaj ?_; conv => whnf))
    have hbl := keptB_len f R f.blocks.length
    have hgb : ∀ h, GB (srcI (910, 0, 0) (fun q => (Za7 R f.blocks.length).getD q 0)) h (Zc4 i { f with blocks := Zbg f R f.blocks.length })
        (.row false 14 (Za7 R f.blocks.length).length (fun q => blkO (renN R (f.blocks.getD ((Za7 R f.blocks.length).getD q 0) default)) (.rs (1001, 0, (Za7 R f.blocks.length).getD q 0) 7 0 (f.blocks.getD ((Za7 R f.blocks.length).getD q 0) default).ins.length)))
        (blkR i (Zbg f R f.blocks.length) (Zbg f R f.blocks.length).length (fun _ => .any)) := fun h => by
      refine GB.row (Nat.le_of_eq hbl) (fun q hq => ?_) (fun e => by cases e)
      rw [keptB_at (by rw [← hbl]; exact hq)]
      refine Zb8 (.cc rfl (Za0 hq) (.rs (treeI_ins (g := { f with blocks := Zbg f R f.blocks.length }) hq) rfl rfl ?_))
      rw [(ren_ins R _).1]
    have hin : ∀ q, q < (Zbg f R f.blocks.length).length → Zc4 0 f (1001, 0, (Za7 R f.blocks.length).getD q 0) = some (insR ((Zbg f R f.blocks.length).getD q default).ins) := fun q hq => by
      rw [hbl] at hq
      rw [keptB_at hq, (ren_ins R _).1]
      exact Zbi (Zd1 hq)
    refine ⟨_, srcI (910, 0, 0) (fun q => (Za7 R f.blocks.length).getD q 0), rfl, ?_, ?_, .agg (.cons (.imm rfl) (.cons (.imm rfl) (.cons (.rs treeI_blk rfl rfl hbl.symm) .nil)))⟩
    · refine (leave_fn (h := orH (Za6 [((910, 0, 0), _)]) (Zc4 0 f)) (b0 := _) (by decide) (fun a b ha hb e => keptN_inj (by rw [← hbl]; exact ha) (by rw [← hbl]; exact hb) e) rfl (hgb _) hin).1
    · refine (leave_fn (b0 := _) (by decide) (fun a b ha hb e => keptN_inj (by rw [← hbl]; exact ha) (by rw [← hbl]; exact hb) e) ?_ (hgb _) ?_).2
      · rfl
      · exact hin
end Go.Proofs.Ytmanpbgaihdalaa
namespace Go.Proofs.Ytmanpbgaihdalaa
open Go Dv
set_option maxRecDepth 10000
set_option linter.unusedSimpArgs false
abbrev u0 : Dv.Id := (0, 7, 0)
abbrev u1 : Dv.Id := (1, 7, 0)
abbrev u2 : Dv.Id := (2, 7, 0)
abbrev nbox (v : Int) : Zap := .row true 1 1 (fun _ => [iv v])
abbrev sbox (S : List Bool) : Zap := .row true 1 1 (fun _ => [Zea S])
abbrev u7 : Dv.Id := (7, 7, 0)
abbrev u8 : Dv.Id := (8, 7, 0)
abbrev u9 : Dv.Id := (9, 7, 0)
abbrev anyB : Zap := .row false 1 1 (fun _ => [.any])
def Zbw (l : List Func) : Zaq := orH (Za6 [(u8, anyB), (u9, anyB)]) (Zbl l (fun _ => true) (fun _ _ => true))
theorem treeT_blk {l : List Func} {i : Nat} (h : i < l.length) : Zbw l (1000, i, 0) = some (blkR i (l.getD i default).blocks (l.getD i default).blocks.length (fun _ => .any)) := show Zbl l (fun _ => true) (fun _ _ => true) (1000, i, 0) = _ from Zbv h rfl
theorem Ze3 {l : List Func} {i q : Nat} (h : i < l.length) (hq : q < (l.getD i default).blocks.length) : Zbw l (1001, i, q) = some (insR ((l.getD i default).blocks.getD q default).ins) := show Zbl l (fun _ => true) (fun _ _ => true) (1001, i, q) = _ from Zbq h hq rfl
theorem treeT_some {l : List Func} {j : Dv.Id} {b : Zap} (h : Zbw l j = some b) : (j = u8 ∧ b = anyB) ∨ (j = u9 ∧ b = anyB) ∨ (∃ i, j = (1000, i, 0) ∧ i < l.length ∧ b = blkR i (l.getD i default).blocks (l.getD i default).blocks.length (fun _ => .any)) ∨
    ∃ i q, j = (1001, i, q) ∧ i < l.length ∧ q < (l.getD i default).blocks.length ∧ b = insR ((l.getD i default).blocks.getD q default).ins := by
  rcases Zfr h with e | ⟨_, e⟩
  · simp only [Za6] at e
    cases e2 : idEq u8 j with
    | true => have := Za5.1 e2; rw [e2] at e; exact .inl ⟨this.symm, (Option.some.inj e).symm⟩
    | false =>
      cases e3 : idEq u9 j with
      | true => have := Za5.1 e3; rw [e2, e3] at e; exact .inr (.inl ⟨this.symm, (Option.some.inj e).symm⟩)
      | false => rw [e2, e3] at e; cases e
  · rcases Zb4 e with ⟨i, h1, h2, _, h3⟩ | ⟨i, q, h1, h2, h3, _, h4⟩
    · exact .inr (.inr (.inl ⟨i, h1, h2, h3⟩))
    · exact .inr (.inr (.inr ⟨i, q, h1, h2, h3, h4⟩))
def famIds (l : List Func) : List Dv.Id := u8 :: u9 :: ((List.range l.length).map (fun j => (1000, j, 0)) ++ (List.range l.length).flatMap fun i => (List.range (l.getD i default).blocks.length).map fun q => (1001, i, q))
def LL (l : List Func) : List Dv.Id := u0 :: u1 :: u2 :: famIds l
def LM (l : List Func) : List Dv.Id := u0 :: u1 :: u2 :: u7 :: famIds l
theorem Zfc {l : List Func} {j : Dv.Id} (h : j ∈ famIds l) : (Zbw l j).isSome = true ∧ pinId j = true ∧ u0 ≠ j ∧ u1 ≠ j ∧ u2 ≠ j ∧ u7 ≠ j := by
  unfold famIds at h
  rcases List.mem_cons.1 h with rfl | h
  · exact ⟨rfl, rfl, by decide, by decide, by decide, by decide⟩
  rcases List.mem_cons.1 h with rfl | h
  · exact ⟨rfl, rfl, by decide, by decide, by decide, by decide⟩
  have big : ∀ (a b c : Nat), 1000 ≤ a → pinId (a, b, c) = true ∧ u0 ≠ (a, b, c) ∧ u1 ≠ (a, b, c) ∧ u2 ≠ (a, b, c) ∧ u7 ≠ (a, b, c) := fun a b c h => by
    refine ⟨by unfold pinId; rw [Bool.or_eq_true, Nat.ble_eq]; exact .inr h, fun e => ?_, fun e => ?_, fun e => ?_, fun e => ?_⟩ <;> cases e <;> omega
  rcases List.mem_append.1 h with h | h
  · obtain ⟨q, hq, rfl⟩ := List.mem_map.1 h
    rw [List.mem_range] at hq
    rw [treeT_blk hq]; exact ⟨rfl, big _ _ _ (Nat.le_refl _)⟩
  · obtain ⟨i, hi, h⟩ := List.mem_flatMap.1 h
    obtain ⟨q, hq, rfl⟩ := List.mem_map.1 h
    rw [List.mem_range] at hq hi
    rw [Ze3 hi hq]; exact ⟨rfl, big _ _ _ (Nat.le_succ _)⟩
theorem famIds_all {l : List Func} {j : Dv.Id} {b : Zap} (h : Zbw l j = some b) : j ∈ famIds l := by
  unfold famIds
  rcases treeT_some h with ⟨rfl, _⟩ | ⟨rfl, _⟩ | ⟨i, rfl, hi, _⟩ | ⟨i, q, rfl, hi, hq, _⟩
  · exact List.mem_cons_self
  · exact List.mem_cons_of_mem _ List.mem_cons_self
  · exact List.mem_cons_of_mem _ (List.mem_cons_of_mem _ (List.mem_append_left _ (List.mem_map.2 ⟨i, List.mem_range.2 hi, rfl⟩)))
  · exact List.mem_cons_of_mem _ (List.mem_cons_of_mem _ (List.mem_append_right _ (List.mem_flatMap.2 ⟨i, List.mem_range.2 hi, List.mem_map.2 ⟨q, List.mem_range.2 hq, rfl⟩⟩)))
theorem LL_ok {l : List Func} {a b c : Zap} : ∀ i ∈ LL l, pinId i = true → (orH (Za6 [(u0, a), (u1, b), (u2, c)]) (Zbw l) i).isSome = true ∧ srcL [] i = some i := by
  intro i hi _
  refine ⟨?_, rfl⟩
  unfold LL at hi
  rcases List.mem_cons.1 hi with rfl | hi
  · rfl
  rcases List.mem_cons.1 hi with rfl | hi
  · rfl
  rcases List.mem_cons.1 hi with rfl | hi
  · rfl
  obtain ⟨h1, -, h2, h3, h4, h5⟩ := Zfc hi
  have hn : Za6 [(u0, a), (u1, b), (u2, c)] i = none := by
    simp only [Za6]
    rw [Zbf.2 h2, Zbf.2 h3, Zbf.2 h4]; rfl
  unfold orH; rw [hn]; exact h1
theorem LM_ok {l : List Func} {a b c d : Zap} : ∀ i ∈ LM l, pinId i = true → (orH (Za6 [(u0, a), (u1, b), (u2, c), (u7, d)]) (Zbw l) i).isSome = true ∧ srcL [] i = some i := by
  intro i hi _
  refine ⟨?_, rfl⟩
  unfold LM at hi
  rcases List.mem_cons.1 hi with rfl | hi
  · rfl
  rcases List.mem_cons.1 hi with rfl | hi
  · rfl
  rcases List.mem_cons.1 hi with rfl | hi
  · rfl
  rcases List.mem_cons.1 hi with rfl | hi
  · rfl
  obtain ⟨h1, -, h2, h3, h4, h5⟩ := Zfc hi
  have hn : Za6 [(u0, a), (u1, b), (u2, c), (u7, d)] i = none := by
    simp only [Za6]
    rw [Zbf.2 h2, Zbf.2 h3, Zbf.2 h4, Zbf.2 h5]; rfl
  unfold orH; rw [hn]; exact h1
theorem LM_pin {l : List Func} {i : Dv.Id} (h : i ∈ LM l) : pinId i = true := by
  unfold LM at h
  rcases List.mem_cons.1 h with rfl | h
  · rfl
  rcases List.mem_cons.1 h with rfl | h
  · rfl
  rcases List.mem_cons.1 h with rfl | h
  · rfl
  rcases List.mem_cons.1 h with rfl | h
  · rfl
  exact (Zfc h).2.1
theorem HLs_or {src : Dv.Id → Option Dv.Id} {h : Zaq} {hl : List (Dv.Id × Zap)} {F : Zaq} (hh : HLs src h (orH (Za6 hl) F) hl) (hF : ∀ j b, F j = some b → HOk src h (orH (Za6 hl) F) j b) : ∀ j b, orH (Za6 hl) F j = some b → HOk src h (orH (Za6 hl) F) j b := by
  intro j b e
  unfold orH at e
  cases e1 : Za6 hl j with
  | some x => rw [e1] at e; cases e; exact hh.spec e1
  | none => rw [e1] at e; exact hF j b e
theorem look3 {u v w : Dv.Id} {a b c : Zap} {F : Zaq} {i : Dv.Id} (h : (orH (Za6 [(u, a), (v, b), (w, c)]) F i).isSome = true) : i = u ∨ i = v ∨ i = w ∨ (F i).isSome = true := by
  unfold orH at h
  simp only [Za6] at h
  cases e1 : idEq u i with
  | true => exact .inl (Za5.1 e1).symm
  | false =>
    cases e2 : idEq v i with
    | true => exact .inr (.inl (Za5.1 e2).symm)
    | false =>
      cases e3 : idEq w i with
      | true => exact .inr (.inr (.inl (Za5.1 e3).symm))
      | false => rw [e1, e2, e3] at h; exact .inr (.inr (.inr h))
theorem look4 {u v w z : Dv.Id} {a b c d : Zap} {F : Zaq} {i : Dv.Id} (h : (orH (Za6 [(u, a), (v, b), (w, c), (z, d)]) F i).isSome = true) : i = u ∨ i = v ∨ i = w ∨ i = z ∨ (F i).isSome = true := by
  unfold orH at h
  simp only [Za6] at h
  cases e1 : idEq u i with
  | true => exact .inl (Za5.1 e1).symm
  | false =>
    cases e2 : idEq v i with
    | true => exact .inr (.inl (Za5.1 e2).symm)
    | false =>
      cases e3 : idEq w i with
      | true => exact .inr (.inr (.inl (Za5.1 e3).symm))
      | false =>
        cases e4 : idEq z i with
        | true => exact .inr (.inr (.inr (.inl (Za5.1 e4).symm)))
        | false => rw [e1, e2, e3, e4] at h; exact .inr (.inr (.inr (.inr h)))
theorem fam_mem {l : List Func} {i : Dv.Id} (h : (Zbw l i).isSome = true) : i ∈ famIds l := by
  cases e : Zbw l i with
  | none => rw [e] at h; cases h
  | some b => exact famIds_all e
theorem LL_all {l : List Func} {a b c : Zap} {i : Dv.Id} (h : (orH (Za6 [(u0, a), (u1, b), (u2, c)]) (Zbw l) i).isSome = true) : i ∈ LL l ∧ i ≠ u7 := by
  unfold LL
  rcases look3 h with rfl | rfl | rfl | h
  · exact ⟨by simp, by decide⟩
  · exact ⟨by simp, by decide⟩
  · exact ⟨by simp, by decide⟩
  · have := fam_mem h
    exact ⟨by simp [this], (Zfc this).2.2.2.2.2.symm⟩
theorem LM_all {l : List Func} {a b c d : Zap} {i : Dv.Id} (h : (orH (Za6 [(u0, a), (u1, b), (u2, c), (u7, d)]) (Zbw l) i).isSome = true) : i ∈ LM l := by
  unfold LM
  rcases look4 h with rfl | rfl | rfl | rfl | h
  · simp
  · simp
  · simp
  · simp
  · have := fam_mem h
    simp [this]
theorem LL_LM {l : List Func} {i : Dv.Id} (h : i ∈ LL l) : i ∈ LM l := by
  unfold LL at h; unfold LM
  simp only [List.mem_cons] at h ⊢
  rcases h with h | h | h | h
  · exact .inl h
  · exact .inr (.inl h)
  · exact .inr (.inr (.inl h))
  · exact .inr (.inr (.inr (.inr h)))
theorem Zcd {u h : Zaq} {j : Dv.Id} (e : h j = u j) : bigH [] u h j = u j := by
  unfold bigH
  cases e1 : u j with
  | some b => rfl
  | none => rw [e, e1]; rfl
theorem keepT {src : Dv.Id → Option Dv.Id} {h h' : Zaq} {l : List Func} (hh : ∀ a b, h (1000, a, b) = Zbw l (1000, a, b) ∧ h (1001, a, b) = Zbw l (1001, a, b)) (hh' : ∀ a b, h' (1000, a, b) = Zbw l (1000, a, b) ∧ h' (1001, a, b) = Zbw l (1001, a, b))
    (hs : ∀ a b, src (1000, a, b) = some (1000, a, b) ∧ src (1001, a, b) = some (1001, a, b)) (h8 : h u8 = some anyB := by rfl) (h9 : h u9 = some anyB := by rfl) (hs8 : src u8 = some u8 := by rfl) (hs9 : src u9 = some u9 := by rfl) : ∀ j b, Zbw l j = some b → HOk src h h' j b := by
  intro j b e
  rcases treeT_some e with ⟨rfl, rfl⟩ | ⟨rfl, rfl⟩ | ⟨p, rfl, hp, rfl⟩ | ⟨p, q, rfl, hp, hq, rfl⟩
  · exact HOk.mk hs8 h8 (GB.one (.cons .any .nil) (fun e => by cases e))
  · exact HOk.mk hs9 h9 (GB.one (.cons .any .nil) (fun e => by cases e))
  · exact HOk.mk (hs p 0).1 ((hh p 0).1.trans (treeT_blk hp)) (Zcq (fun q hq => .cc (Za0 hq) (Za0 hq) (.rs ((hh' p q).2.trans (Ze3 hp hq)) (hs p q).2 rfl rfl)))
  · exact HOk.mk (hs p q).2 ((hh p q).2.trans (Ze3 hp hq)) (Zc7 _)
abbrev Zfw (l : List Func) (q : Nat) : List AV := [iv (l.getD q default).params, iv (l.getD q default).regs, mem1 l q]
theorem Zbj {src : Dv.Id → Option Dv.Id} {h h' : Zaq} {l : List Func} {q : Nat} (hq : q < l.length) (hh' : h' (1000, q, 0) = Zbw l (1000, q, 0)) (hs : src (1000, q, 0) = some (1000, q, 0)) : GVs src h h' (Zfw l q) (Zfw l q) :=
  .cons (.imm rfl) (.cons (.imm rfl) (.cons (.rs (hh'.trans (treeT_blk hq)) hs rfl rfl) .nil))
abbrev frow (l : List Func) (n : Nat) (ρ : Nat → Nat) : Zap := .row false 3 n (fun x => Zfw l (ρ x))
abbrev HL (l : List Func) (ρ : Nat → Nat) (v : Int) (S : List Bool) (m x : Nat) : List (Dv.Id × Zap) := [(u0, frow l l.length ρ), (u1, nbox v), (u2, sbox S), (u7, .row false 3 m (fun _ => Zfw l x))]
theorem c_clo (l : List Func) (S : List Bool) (hS : S.length = l.length) (hm : l.length ≤ maxL) (ρ : Nat → Nat) (hρ : ∀ x, x < l.length → ρ x < l.length) (k q m x : Nat) (hk : k < l.length) (hq : q < l.length) (hx : 0 < m → x < l.length) :
    HG Try.prog (LM l) 96 (orH (Za6 (HL l ρ ((k : Int) - 1) S m x)) (Zbw l)) [.agg (Zfw l q), .bp u1 0, .bp u2 0] (.bool (!S.getD k false)) (orH (Za6 (HL l ρ k S m x)) (Zbw l)) := by
  refine HG_intro tok Try.func96 rfl (by decide +kernel) (Nat.le_of_ble_eq_true rfl) ?_
  refine AWp_after ?_
  have hmx : maxL = 4294967296 := rfl
  have hw : IntKind.i64.wrap ((k : Int) - 1 + 1) = k := by rw [Zal (by omega) (by omega)]; omega
  (repeat' ((fail_if_success (show AWp _ _ _ (Code.region 2 _ _) _ _)); first | refine Zad ?_ | (refine Zac tok (by rfl) ?_; conv => whnf)))
  refine Zaz (τ := mkF [(1, .bp u1 0), (2, .bp u2 0)] (HL l ρ k S m x) (Zbw l)) ?_ ?_
  · refine Weak.fam [] rfl (fun i hi => by cases hi) (.cons (.bp rfl rfl) (.cons (.bp rfl rfl) .nil)) ?_ (keepT (fun _ _ => ⟨rfl, rfl⟩) (fun _ _ => ⟨rfl, rfl⟩) (fun _ _ => ⟨rfl, rfl⟩)) LM_ok
    refine .old rfl rfl (GB.row (Nat.le_refl _) (fun q hq => Zbj (hρ q hq) rfl rfl) (fun e => by cases e)) (.old rfl rfl (GB.one (.cons (.int hw) .nil) (fun _ => rfl)) (.old rfl rfl (GB.one (GVs.imm rfl) (fun _ => rfl)) (.old rfl rfl (GB.row (Nat.le_refl _) (fun q hq => Zbj (hx (by omega)) rfl rfl) (fun e => by cases e)) .nil)))
  ((repeat' first | (refine Zac tok (by rfl) ?_; conv => whnf) | (refine Zaj ?_; conv => whnf) | (refine @And.intro (Zaa _ _ _ _) _ ?_ ?_; rotate_left; (conv => whnf); rotate_right)); all_goals (try ((guard_target = Zaa _ _ _ _); refine Zae ?_; (all_goals (try simp only [Zaa, kzz, kz11, kz12, maxL, Zab] at *)); all_goals omega)))
  refine ⟨mkF [(4, .bool (!S.getD k false))] (HL l ρ k S m x) (Zbw l), ?_, ⟨_, rfl, rfl, rfl⟩⟩
  refine Weak.fam [] rfl (fun i hi => by cases hi) (.cons (.imm rfl) .nil) ?_ (keepT (fun _ _ => ⟨rfl, rfl⟩) (fun _ _ => ⟨rfl, rfl⟩) (fun _ _ => ⟨rfl, rfl⟩)) LM_ok
  exact .old rfl rfl (GB.row (Nat.le_refl _) (fun q hq => Zbj (hρ q hq) rfl rfl) (fun e => by cases e)) (.old rfl rfl (GB.one (GVs.imm rfl) (fun _ => rfl)) (.old rfl rfl (GB.one (GVs.imm rfl) (fun _ => rfl)) (.old rfl rfl (GB.row (Nat.le_refl _) (fun q hq => Zbj (hx (by omega)) rfl rfl) (fun e => by cases e)) .nil)))
set_option maxHeartbeats 1000000 in
theorem c_IndexF (l : List Func) (S : List Bool) (hS : S.length = l.length) (hlm : l.length ≤ maxL) (e : Nat) (he : e ≤ l.length) (hpre : ∀ q, q < e → S.getD q false = true) (hend : e < l.length → S.getD e false = false) :
    HG Try.prog (LL l) 128 (orH (Za6 [(u0, frow l l.length (fun x => x)), (u1, nbox (-1)), (u2, sbox S)]) (Zbw l)) [.rs u0 3 0 l.length, .fn 96 [.bp u1 0, .bp u2 0]]
      (iv (if e < l.length then (e : Int) else -1)) (orH (Za6 [(u0, frow l l.length (fun x => x)), (u1, nbox (if e < l.length then (e : Int) else l.length - 1)), (u2, sbox S)]) (Zbw l)) := by
  refine HG_intro tok Try.func128 rfl (by decide +kernel) (Nat.le_of_ble_eq_true rfl) ?_
  refine AWp_after ?_
  have hmx : maxL = 4294967296 := rfl
  (repeat' first | refine Zad ?_ | (refine Zac tok (by rfl) ?_; conv => whnf) | refine Zaf ?_)
  refine Zas (fun i : Nat => mkF [(0, .rs u0 3 0 l.length), (1, .fn 96 [.bp u1 0, .bp u2 0]), (7, iv l.length), (8, iv i)] [((0, 7, 0), frow l l.length (fun x => x)), ((1, 7, 0), nbox ((i : Int) - 1)), ((2, 7, 0), sbox S)] (Zbw l)) (fun i => i ≤ e) (fun i => l.length - i) 0 (Nat.zero_le _) ?_ ?_
  · refine Weak.fam [] rfl (fun i hi => by cases hi) ?_ ?_ (keepT (fun _ _ => ⟨rfl, rfl⟩) (fun _ _ => ⟨rfl, rfl⟩) (fun _ _ => ⟨rfl, rfl⟩)) LL_ok
    · exact .cons (.rs rfl rfl rfl rfl) (.cons (.fn (.cons (.bp rfl rfl) (.cons (.bp rfl rfl) .nil))) (.cons (.imm rfl) (.cons (.imm rfl) .nil)))
    · exact .old rfl rfl (GB.row (Nat.le_refl _) (fun q hq => Zbj hq rfl rfl) (fun e => by cases e)) (.old rfl rfl (GB.one (GVs.imm rfl) (fun _ => rfl)) (.old rfl rfl (GB.one (GVs.imm rfl) (fun _ => rfl)) .nil))
  intro i hi
  (repeat' ((fail_if_success (show AWp _ _ _ (Code.region 3 _ _) _ _)); (fail_if_success (show AWp _ _ _ (Code.region 7 _ _) _ _)); first | refine Zad ?_ | (refine Zac tok (by rfl) ?_; conv => whnf) | refine Zaf ?_ | (refine Zah ?_; conv => whnf) | (refine Zar ?_; conv => whnf) | refine Zag rfl (fun hb => ?_) (fun hb => ?_)))
  · have hil : i < l.length := by simp only [decide_eq_true_eq] at hb; omega
    clear hb
    have hcall := c_clo l S hS hlm (fun x => x) (fun _ h => h) i i 0 0 hil hil (fun h => absurd h (Nat.lt_irrefl 0))
    have hzi : 0 + (i : Int).toNat = i := by simp
    ((repeat' first | refine Zad ?_ | (refine Zac tok (by rfl) ?_; conv => whnf) | (refine @And.intro (Zaa _ _ _ _) _ ?_ ?_; rotate_left; (conv => whnf); rotate_right)); all_goals (try ((guard_target = Zaa _ _ _ _); refine Zae ?_; (all_goals (try simp only [Zaa, kzz, kz11, kz12, maxL, Zab] at *)); all_goals omega)))
    refine .inr ⟨_, _, _, uG (QH.ofG (dead := []) hcall (srcL [(u7, none)]) (srcL_inj rfl (fun i hi => by cases hi)) ?_ ?_ ?_), ?_⟩
    · refine HLs_or ?_ (keepT (fun _ _ => ⟨rfl, rfl⟩) (fun _ _ => ⟨rfl, rfl⟩) (fun _ _ => ⟨rfl, rfl⟩))
      exact .old rfl rfl (GB.row (Nat.le_refl _) (fun q hq => Zbj hq rfl rfl) (fun e => by cases e)) (.old rfl rfl (GB.one (GVs.imm rfl) (fun _ => rfl)) (.old rfl rfl (GB.one (GVs.imm rfl) (fun _ => rfl)) (.new rfl .nil)))
    · refine .cons (.agg ?_) (.cons (.bp rfl rfl) (.cons (.bp rfl rfl) .nil))
      show GVs _ _ _ (Zfw l (0 + (i : Int).toNat)) (Zfw l i)
      rw [hzi]; exact Zbj hil rfl rfl
    · intro j hj
      obtain ⟨h1, h2⟩ := LL_all hj
      refine .inr ⟨LL_LM h1, LM_pin (LL_LM h1), ?_, (LM_ok j (LL_LM h1) (LM_pin (LL_LM h1))).1, (LM_ok j (LL_LM h1) (LM_pin (LL_LM h1))).1⟩
      exact Zb2 (fun e => h2 e.symm)
    conv => whnf
    (repeat' first | refine Zad ?_ | (refine Zac tok (by rfl) ?_; conv => whnf) | (refine Zah ?_; conv => whnf) | (refine Zaj ?_; conv => whnf) | refine Zag rfl (fun hb => ?_) (fun hb => ?_))
    · have hf : S.getD i false = false := by simpa using hb
      have hie : i = e := by
        by_cases h : i < e
        · rw [hpre i h] at hf; cases hf
        · omega
      subst hie
      rw [if_pos hil, if_pos hil]
      refine ⟨mkF [(4, iv i)] [(u0, frow l l.length (fun x => x)), (u1, nbox i), (u2, sbox S)] (Zbw l), ?_, ⟨_, rfl, rfl, rfl⟩⟩
      refine Weak.fam [] rfl (fun i hi => by cases hi) (.cons (.imm rfl) .nil) ?_ (keepT (fun a b => ⟨?_, ?_⟩) (fun _ _ => ⟨rfl, rfl⟩) (fun _ _ => ⟨rfl, rfl⟩)) LL_ok
      · exact .old rfl rfl (GB.row (Nat.le_refl _) (fun q hq => Zbj hq rfl rfl) (fun e => by cases e)) (.old rfl rfl (GB.one (GVs.imm rfl) (fun _ => rfl)) (.old rfl rfl (GB.one (GVs.imm rfl) (fun _ => rfl)) .nil))
      · exact Zcd (u := orH (Za6 (HL l (fun x => x) i S 0 0)) (Zbw l)) rfl
      · exact Zcd (u := orH (Za6 (HL l (fun x => x) i S 0 0)) (Zbw l)) rfl
    · have hf : S.getD i false = true := by simpa using hb
      have hie : i < e := by
        by_cases h : i = e
        · subst h; rw [hend hil] at hf; cases hf
        · omega
      refine ⟨i + 1, hie, by omega, ?_⟩
      refine Weak.fam [] rfl (fun i hi => by cases hi) ?_ ?_ (keepT (fun a b => ⟨?_, ?_⟩) (fun _ _ => ⟨rfl, rfl⟩) (fun _ _ => ⟨rfl, rfl⟩)) LL_ok
      · exact .cons (.rs rfl rfl rfl rfl) (.cons (.fn (.cons (.bp rfl rfl) (.cons (.bp rfl rfl) .nil))) (.cons (.imm rfl) (.cons (.int (by rw [Zal (by omega) (by omega)]; rfl)) .nil)))
      · refine .old rfl rfl (GB.row (Nat.le_refl _) (fun q hq => Zbj hq rfl rfl) (fun e => by cases e)) (.old rfl rfl (GB.one (.cons (.int ?_) .nil) (fun _ => rfl)) (.old rfl rfl (GB.one (GVs.imm rfl) (fun _ => rfl)) .nil))
        show (i : Int) = ((i + 1 : Nat) : Int) - 1
        omega
      · exact Zcd (u := orH (Za6 (HL l (fun x => x) i S 0 0)) (Zbw l)) rfl
      · exact Zcd (u := orH (Za6 (HL l (fun x => x) i S 0 0)) (Zbw l)) rfl
  · have hil : i = l.length := by simp only [decide_eq_false_iff_not] at hb; omega
    clear hb
    have hie : e = l.length := by omega
    subst hil
    rw [if_neg (by omega), if_neg (by omega)]
    (repeat' first | (refine Zac tok (by rfl) ?_; conv => whnf) | (refine Zaj ?_; conv => whnf))
    refine ⟨mkF [(4, iv (-1))] [(u0, frow l l.length (fun x => x)), (u1, nbox ((l.length : Int) - 1)), (u2, sbox S)] (Zbw l), ?_, ⟨_, rfl, rfl, rfl⟩⟩
    refine Weak.fam [] rfl (fun i hi => by cases hi) (.cons (.imm rfl) .nil) ?_ (keepT (fun a b => ⟨rfl, rfl⟩) (fun _ _ => ⟨rfl, rfl⟩) (fun _ _ => ⟨rfl, rfl⟩)) LL_ok
    exact .old rfl rfl (GB.row (Nat.le_refl _) (fun q hq => Zbj hq rfl rfl) (fun e => by cases e)) (.old rfl rfl (GB.one (GVs.imm rfl) (fun _ => rfl)) (.old rfl rfl (GB.one (GVs.imm rfl) (fun _ => rfl)) .nil))
theorem first_no (S : List Bool) : ∀ n, ∃ e, e ≤ n ∧ (∀ q, q < e → S.getD q false = true) ∧ (e < n → S.getD e false = false)
  | 0 => ⟨0, Nat.le_refl _, fun q h => absurd h (Nat.not_lt_zero q), fun h => absurd h (Nat.lt_irrefl 0)⟩
  | n + 1 => by
      obtain ⟨e, h1, h2, h3⟩ := first_no S n
      by_cases h : e < n
      · exact ⟨e, by omega, h2, fun _ => h3 h⟩
      · have : e = n := by omega
        subst this
        cases hc : S.getD e false with
        | false => exact ⟨e, by omega, h2, fun _ => hc⟩
        | true => exact ⟨e + 1, Nat.le_refl _, fun q hq => by
            by_cases hqe : q = e
            · subst hqe; exact hc
            · exact h2 q (by omega), fun h => absurd h (Nat.lt_irrefl _)⟩
theorem keptN_all {S : List Bool} : ∀ e, (∀ q, q < e → S.getD q false = true) → Za7 S e = List.range e
  | 0, _ => rfl
  | e + 1, h => by rw [Zfa (h e (Nat.lt_succ_self e)), keptN_all e (fun q hq => h q (by omega)), List.range_succ]
theorem LL_ne {l : List Func} {i : Dv.Id} (h : i ∈ LL l) : u7 ≠ i := by
  unfold LL at h
  rcases List.mem_cons.1 h with rfl | h
  · decide
  rcases List.mem_cons.1 h with rfl | h
  · decide
  rcases List.mem_cons.1 h with rfl | h
  · decide
  · exact (Zfc h).2.2.2.2.2
theorem LE_ok {l : List Func} {a b c d : Zap} {o : Option Dv.Id} : ∀ i ∈ LL l, pinId i = true → (orH (Za6 [(u0, a), (u1, b), (u2, c), (u7, d)]) (Zbw l) i).isSome = true ∧ srcL [(u7, o)] i = some i :=
  fun i hi hp => ⟨(LM_ok i (LL_LM hi) hp).1, Zb2 (LL_ne hi)⟩
structure DI (S : List Bool) (n j : Nat) (ρ : Nat → Nat) : Prop where
  hj : j ≤ n
  lt : (Za7 S j).length < j
  lo : ∀ x, x < (Za7 S j).length → ρ x = (Za7 S j).getD x 0
  hi : ∀ x, j ≤ x → x < n → ρ x = x
  rg : ∀ x, x < n → ρ x < n
theorem DI.yes {S : List Bool} {n j : Nat} {ρ : Nat → Nat} (h : DI S n j ρ) (hj : j < n) (hs : S.getD j false = true) : DI S n (j + 1) (fun x => bif Nat.beq (Za7 S j).length x then j else ρ x) := by
  have hlt := h.lt
  refine ⟨hj, by rw [Zex hs]; omega, fun x hx => ?_, fun x hx hn => ?_, fun x hx => ?_⟩
  · rw [Zex hs] at hx
    by_cases e : x < (Za7 S j).length
    · have : Nat.beq (Za7 S j).length x = false := by rw [Bool.eq_false_iff]; intro h; have := Nat.eq_of_beq_eq_true h; omega
      simp only [this, cond_false]
      rw [kept_lo hs e]; exact h.lo x e
    · have : x = (Za7 S j).length := by omega
      subst this
      rw [kept_hi hs]; simp
  · have : Nat.beq (Za7 S j).length x = false := by rw [Bool.eq_false_iff]; intro h; have := Nat.eq_of_beq_eq_true h; omega
    simp only [this, cond_false]
    exact h.hi x (by omega) hn
  · cases Nat.beq (Za7 S j).length x with
    | true => exact hj
    | false => exact h.rg x hx
theorem DI.no {S : List Bool} {n j : Nat} {ρ : Nat → Nat} (h : DI S n j ρ) (hj : j < n) (hs : S.getD j false = false) : DI S n (j + 1) ρ := by
  have hlt := h.lt
  exact ⟨hj, by rw [Zef hs]; omega, by rw [Zef hs]; exact h.lo, fun x hx hn => h.hi x (by omega) hn, h.rg⟩
set_option maxHeartbeats 2000000 in
theorem c_DelF (l : List Func) (S : List Bool) (hS : S.length = l.length) (hlm : l.length ≤ maxL) :
    HG Try.prog (LL l) 95 (orH (Za6 [(u0, frow l l.length (fun x => x)), (u1, nbox (-1)), (u2, sbox S)]) (Zbw l)) [.rs u0 3 0 l.length, .fn 96 [.bp u1 0, .bp u2 0]]
      (.rs u0 3 0 (Za7 S l.length).length) (orH (Za6 [(u0, frow l (Za7 S l.length).length (fun x => (Za7 S l.length).getD x 0)), (u1, nbox ((l.length : Int) - 1)), (u2, sbox S)]) (Zbw l)) := by
  refine HG_intro tok Try.func95 rfl (by decide +kernel) (Nat.le_of_ble_eq_true rfl) ?_
  refine AWp_after ?_
  have hmx : maxL = 4294967296 := rfl
  obtain ⟨e, he, hpre, hend⟩ := first_no S l.length
  have hcall := c_IndexF l S hS hlm e he hpre hend
  have hka := keptN_all e hpre
  (repeat' first | refine Zad ?_ | (refine Zac tok (by rfl) ?_; conv => whnf))
  refine .inr ⟨_, _, _, uG (QH.ofG (dead := []) hcall (srcL []) (srcL_inj rfl (fun i hi => by cases hi)) ?_ ?_ ?_), ?_⟩
  · refine HLs_or ?_ (keepT (fun _ _ => ⟨rfl, rfl⟩) (fun _ _ => ⟨rfl, rfl⟩) (fun _ _ => ⟨rfl, rfl⟩))
    exact .old rfl rfl (GB.row (Nat.le_refl _) (fun q hq => Zbj hq rfl rfl) (fun e => by cases e)) (.old rfl rfl (GB.one (GVs.imm rfl) (fun _ => rfl)) (.old rfl rfl (GB.one (GVs.imm rfl) (fun _ => rfl)) .nil))
  · exact .cons (.rs rfl rfl rfl rfl) (.cons (.fn (.cons (.bp rfl rfl) (.cons (.bp rfl rfl) .nil))) .nil)
  · intro j hj
    obtain ⟨h1, h2⟩ := LL_all hj
    exact .inr ⟨h1, LM_pin (LL_LM h1), rfl, (LL_ok j h1 (LM_pin (LL_LM h1))).1, (LL_ok j h1 (LM_pin (LL_LM h1))).1⟩
  clear hcall
  by_cases hen : e < l.length
  · rw [if_pos hen, if_pos hen]
    have hke : Za7 S (e + 1) = Za7 S e := Zef (hend hen)
    have hkl : (Za7 S (e + 1)).length = e := by rw [hke, hka, List.length_range]
    conv => whnf
    (repeat' first | refine Zad ?_ | (refine Zac tok (by rfl) ?_; conv => whnf) | refine Zaf ?_ | (refine Zah ?_; conv => whnf) | (refine Zaj ?_; conv => whnf) | refine Zag rfl (fun hb => ?_) (fun hb => ?_))
    · exfalso; simp at hb
    clear hb
    refine Zas (fun s : Nat × (Nat → Nat) => mkF [(0, .rs u0 3 0 l.length), (1, .fn 96 [.bp u1 0, .bp u2 0]), (5, iv (Za7 S s.1).length), (6, iv s.1)] [((0, 7, 0), frow l l.length s.2), ((1, 7, 0), nbox ((s.1 : Int) - 1)), ((2, 7, 0), sbox S)] (Zbw l)) (fun s => DI S l.length s.1 s.2) (fun s => l.length - s.1) (e + 1, fun x => x) ?_ ?_ ?_
    · refine ⟨hen, by rw [hkl]; exact Nat.lt_succ_self e, fun x hx => ?_, fun _ _ _ => rfl, fun _ h => h⟩
      rw [hkl] at hx
      show x = (Za7 S (e + 1)).getD x 0
      rw [hke, hka]; simp [List.getD_eq_getElem?_getD, hx]
    · refine Weak.fam [] rfl (fun i hi => by cases hi) ?_ ?_ (keepT (fun a b => ⟨?_, ?_⟩) (fun _ _ => ⟨rfl, rfl⟩) (fun _ _ => ⟨rfl, rfl⟩)) LL_ok
      · refine .cons (.rs rfl rfl rfl rfl) (.cons (.fn (.cons (.bp rfl rfl) (.cons (.bp rfl rfl) .nil))) (.cons (.int ?_) (.cons (.int ?_) .nil)))
        · show (e : Int) = ((Za7 S (e + 1)).length : Int)
          rw [hkl]
        · rw [Zal (by omega) (by omega)]; rfl
      · refine .old rfl rfl (GB.row (Nat.le_refl _) (fun q hq => Zbj hq rfl rfl) (fun e => by cases e)) (.old rfl rfl (GB.one (.cons (.int ?_) .nil) (fun _ => rfl)) (.old rfl rfl (GB.one (GVs.imm rfl) (fun _ => rfl)) .nil))
        show (e : Int) = ((e + 1 : Nat) : Int) - 1
        omega
      · exact Zcd (u := orH (Za6 [(u0, frow l l.length (fun x => x)), (u1, nbox (e : Int)), (u2, sbox S)]) (Zbw l)) rfl
      · exact Zcd (u := orH (Za6 [(u0, frow l l.length (fun x => x)), (u1, nbox (e : Int)), (u2, sbox S)]) (Zbw l)) rfl
    rintro ⟨j, ρ⟩ hI
    replace hI : DI S l.length j ρ := hI
    have hjl0 := hI.hj
    have hlt := hI.lt
    have hrg := hI.rg
    show AWp _ _ _ _ _ (mkF [(0, .rs u0 3 0 l.length), (1, .fn 96 [.bp u1 0, .bp u2 0]), (5, iv (Za7 S j).length), (6, iv j)] [((0, 7, 0), frow l l.length ρ), ((1, 7, 0), nbox ((j : Int) - 1)), ((2, 7, 0), sbox S)] (Zbw l))
    (repeat' ((fail_if_success (show AWp _ _ _ (Code.region 7 _ _) _ _)); (fail_if_success (show AWp _ _ _ (Code.region 11 _ _) _ _)); first | refine Zad ?_ | (refine Zac tok (by rfl) ?_; conv => whnf) | refine Zaf ?_ | (refine Zah ?_; conv => whnf) | (refine Zar ?_; conv => whnf) | refine Zag rfl (fun hb => ?_) (fun hb => ?_)))
    · have hj : j < l.length := by simp only [decide_eq_true_eq] at hb; omega
      clear hb
      have hzj : 0 + (j : Int).toNat = j := by simp
      ((repeat' ((fail_if_success (show AWp _ _ _ (Code.region 8 _ _) _ _)); first | refine Zad ?_ | (refine Zac tok (by rfl) ?_; conv => whnf) | (refine @And.intro (Zaa _ _ _ _) _ ?_ ?_; rotate_left; (conv => whnf); rotate_right))); all_goals (try ((guard_target = Zaa _ _ _ _); refine Zae ?_; (all_goals (try simp only [Zaa, kzz, kz11, kz12, maxL, Zab] at *)); all_goals omega)))
      refine Zaz (Weak.fam (L := LL l) (tl := [(0, .rs u0 3 0 l.length), (1, .fn 96 [.bp u1 0, .bp u2 0]), (5, iv (Za7 S j).length), (6, iv j), (7, .bp u7 0)]) (hl := [((0, 7, 0), frow l l.length ρ), ((1, 7, 0), nbox ((j : Int) - 1)), ((2, 7, 0), sbox S), ((7, 7, 0), .row false 3 1 (fun _ => Zfw l j))]) (F := (Zbw l)) [(u7, some (7, 0, 0))] rfl (fun c hc => by simp only [tgts, List.mem_singleton] at hc; subst hc; exact .inl rfl) ?_ ?_ ?_ LE_ok) ?_
      · exact .cons (.rs rfl rfl rfl rfl) (.cons (.fn (.cons (.bp rfl rfl) (.cons (.bp rfl rfl) .nil))) (.cons (.imm rfl) (.cons (.imm rfl) (.cons (.bp rfl rfl) .nil))))
      · refine .old rfl rfl (GB.row (Nat.le_refl _) (fun q hq => Zbj (hrg q hq) rfl rfl) (fun e => by cases e)) (.old rfl rfl (GB.one (GVs.imm rfl) (fun _ => rfl)) (.old rfl rfl (GB.one (GVs.imm rfl) (fun _ => rfl)) (.old rfl rfl (GB.one ?_ (fun e => by cases e)) .nil)))
        show GVs _ _ _ (Zfw l (ρ (0 + (j : Int).toNat))) (Zfw l j)
        rw [hzj, hI.hi j (Nat.le_refl _) hj]
        exact Zbj hj rfl rfl
      · exact (keepT (fun _ _ => ⟨rfl, rfl⟩) (fun _ _ => ⟨rfl, rfl⟩) (fun _ _ => ⟨rfl, rfl⟩))
      have hcall := c_clo l S hS hlm ρ hrg j j 1 j hj hj (fun _ => hj)
      (repeat' (refine Zac tok (by rfl) ?_; conv => whnf))
      refine .inr ⟨_, _, _, uG (QH.ofG (dead := []) hcall (srcL []) (srcL_inj rfl (fun i hi => by cases hi)) ?_ ?_ ?_), ?_⟩
      · refine HLs_or ?_ (keepT (fun _ _ => ⟨rfl, rfl⟩) (fun _ _ => ⟨rfl, rfl⟩) (fun _ _ => ⟨rfl, rfl⟩))
        exact .old rfl rfl (GB.row (Nat.le_refl _) (fun q hq => Zbj (hrg q hq) rfl rfl) (fun e => by cases e)) (.old rfl rfl (GB.one (GVs.imm rfl) (fun _ => rfl)) (.old rfl rfl (GB.one (GVs.imm rfl) (fun _ => rfl)) (.old rfl rfl (GB.one (Zbj hj rfl rfl) (fun e => by cases e)) .nil)))
      · exact .cons (.agg (Zbj hj rfl rfl)) (.cons (.bp rfl rfl) (.cons (.bp rfl rfl) .nil))
      · intro i hi
        have h1 := LM_all hi
        exact .inr ⟨h1, LM_pin h1, rfl, (LM_ok i h1 (LM_pin h1)).1, (LM_ok i h1 (LM_pin h1)).1⟩
      conv => whnf
      ((repeat' first | refine Zad ?_ | (refine Zac tok (by rfl) ?_; conv => whnf) | (refine Zah ?_; conv => whnf) | refine Zag rfl (fun hb => ?_) (fun hb => ?_) | (refine @And.intro (Zaa _ _ _ _) _ ?_ ?_; rotate_left; (conv => whnf); rotate_right)); all_goals (try ((guard_target = Zaa _ _ _ _); refine Zae ?_; (all_goals (try simp only [Zaa, kzz, kz11, kz12, maxL, Zab] at *)); all_goals omega)))
      · have hs : S.getD j false = true := by simpa using hb
        clear hb
        refine ⟨(j + 1, fun x => bif Nat.beq (Za7 S j).length x then j else ρ x), hI.yes hj hs, by simp only; omega, ?_⟩
        refine Weak.fam [] rfl (fun i hi => by cases hi) ?_ ?_ (keepT (fun a b => ⟨?_, ?_⟩) (fun _ _ => ⟨rfl, rfl⟩) (fun _ _ => ⟨rfl, rfl⟩)) LL_ok
        · refine .cons (.rs rfl rfl rfl rfl) (.cons (.fn (.cons (.bp rfl rfl) (.cons (.bp rfl rfl) .nil))) (.cons (.int ?_) (.cons (.int ?_) .nil)))
          · rw [Zal (by omega) (by omega)]
            show ((Za7 S j).length : Int) + 1 = ((Za7 S (j + 1)).length : Int)
            rw [Zex hs]; rfl
          · rw [Zal (by omega) (by omega)]; rfl
        · refine .old rfl rfl (GB.row (Nat.le_refl _) (fun q hq => GVs.upd (fun e => ?_) (fun e => ?_)) (fun e => by cases e)) (.old rfl rfl (GB.one (.cons (.int ?_) .nil) (fun _ => rfl)) (.old rfl rfl (GB.one (GVs.imm rfl) (fun _ => rfl)) .nil))
          · have e' : q = (Za7 S j).length := by rw [e, Nat.zero_add, Int.toNat_natCast]
            show GVs _ _ _ (Zfw l j) (Zfw l (bif Nat.beq (Za7 S j).length q then j else ρ q))
            rw [e']
            have : Nat.beq (Za7 S j).length (Za7 S j).length = true := by simp
            rw [this]
            exact Zbj hj rfl rfl
          · have e' : Nat.beq (Za7 S j).length q = false := by rw [Bool.eq_false_iff]; intro h; have := Nat.eq_of_beq_eq_true h; exact e (by rw [Nat.zero_add, Int.toNat_natCast]; exact this.symm)
            show GVs _ _ _ (Zfw l (ρ q)) (Zfw l (bif Nat.beq (Za7 S j).length q then j else ρ q))
            rw [e']
            exact Zbj (hrg q hq) rfl rfl
          · show (j : Int) = ((j + 1 : Nat) : Int) - 1
            omega
        · exact Zcd (u := orH (Za6 (HL l ρ (j : Int) S 1 j)) (Zbw l)) (h := orH (Za6 (HL l ρ ((j : Int) - 1) S 1 j)) (Zbw l)) rfl
        · exact Zcd (u := orH (Za6 (HL l ρ (j : Int) S 1 j)) (Zbw l)) (h := orH (Za6 (HL l ρ ((j : Int) - 1) S 1 j)) (Zbw l)) rfl
      · have hs : S.getD j false = false := by simpa using hb
        clear hb
        refine ⟨(j + 1, ρ), hI.no hj hs, by simp only; omega, ?_⟩
        refine Weak.fam [] rfl (fun i hi => by cases hi) ?_ ?_ (keepT (fun a b => ⟨?_, ?_⟩) (fun _ _ => ⟨rfl, rfl⟩) (fun _ _ => ⟨rfl, rfl⟩)) LL_ok
        · refine .cons (.rs rfl rfl rfl rfl) (.cons (.fn (.cons (.bp rfl rfl) (.cons (.bp rfl rfl) .nil))) (.cons (.int ?_) (.cons (.int ?_) .nil)))
          · show ((Za7 S j).length : Int) = ((Za7 S (j + 1)).length : Int)
            rw [Zef hs]
          · rw [Zal (by omega) (by omega)]; rfl
        · refine .old rfl rfl (GB.row (Nat.le_refl _) (fun q hq => Zbj (hrg q hq) rfl rfl) (fun e => by cases e)) (.old rfl rfl (GB.one (.cons (.int ?_) .nil) (fun _ => rfl)) (.old rfl rfl (GB.one (GVs.imm rfl) (fun _ => rfl)) .nil))
          show (j : Int) = ((j + 1 : Nat) : Int) - 1
          omega
        · exact Zcd (u := orH (Za6 (HL l ρ (j : Int) S 1 j)) (Zbw l)) rfl
        · exact Zcd (u := orH (Za6 (HL l ρ (j : Int) S 1 j)) (Zbw l)) rfl
    · have hj : j = l.length := by simp only [decide_eq_false_iff_not] at hb; omega
      clear hb
      subst hj
      ((repeat' first | refine Zad ?_ | (refine Zac tok (by rfl) ?_; conv => whnf) | (refine Zaj ?_; conv => whnf) | (refine @And.intro (Zaa _ _ _ _) _ ?_ ?_; rotate_left; (conv => whnf); rotate_right)); all_goals (try ((guard_target = Zaa _ _ _ _); refine Zae ?_; (all_goals (try simp only [Zaa, kzz, kz11, kz12, maxL, Zab] at *)); all_goals omega)))
      refine ⟨mkF [(4, .rs u0 3 0 (Za7 S l.length).length)] [(u0, frow l (Za7 S l.length).length (fun x => (Za7 S l.length).getD x 0)), (u1, nbox ((l.length : Int) - 1)), (u2, sbox S)] (Zbw l), ?_, ⟨_, rfl, rfl, rfl⟩⟩
      refine Weak.fam [] rfl (fun i hi => by cases hi) ?_ ?_ (keepT (fun a b => ⟨?_, ?_⟩) (fun _ _ => ⟨rfl, rfl⟩) (fun _ _ => ⟨rfl, rfl⟩)) LL_ok
      · exact .cons (.rs rfl rfl rfl rfl) .nil
      · refine .old rfl rfl (GB.row (by omega) (fun q hq => ?_) (fun e => by cases e)) (.old rfl rfl (GB.one (GVs.imm rfl) (fun _ => rfl)) (.old rfl rfl (GB.one (GVs.imm rfl) (fun _ => rfl)) .nil))
        show GVs _ _ _ (bif inRow (0 + (Za7 S l.length).length) (l.length - (Za7 S l.length).length) q then [iv 0, iv 0, .nsl] else Zfw l (ρ q)) (Zfw l ((Za7 S l.length).getD q 0))
        cases e2 : inRow (0 + (Za7 S l.length).length) (l.length - (Za7 S l.length).length) q with
        | true => have := Zfb.1 e2; omega
        | false =>
          rw [hI.lo q hq]
          exact Zbj (Zd1 hq) rfl rfl
      · rfl
      · rfl
  · rw [if_neg hen, if_neg hen]
    have hen2 : e = l.length := by omega
    subst hen2
    conv => whnf
    (repeat' first | refine Zad ?_ | (refine Zac tok (by rfl) ?_; conv => whnf) | refine Zaf ?_ | (refine Zah ?_; conv => whnf) | (refine Zaj ?_; conv => whnf) | refine Zag rfl (fun hb => ?_) (fun hb => ?_))
    · refine ⟨mkF [(4, .rs u0 3 0 (Za7 S l.length).length)] [(u0, frow l (Za7 S l.length).length (fun x => (Za7 S l.length).getD x 0)), (u1, nbox ((l.length : Int) - 1)), (u2, sbox S)] (Zbw l), ?_, ⟨_, rfl, rfl, rfl⟩⟩
      refine Weak.fam [] rfl (fun i hi => by cases hi) ?_ ?_ (keepT (fun a b => ⟨?_, ?_⟩) (fun _ _ => ⟨rfl, rfl⟩) (fun _ _ => ⟨rfl, rfl⟩)) LL_ok
      · exact .cons (.rs rfl rfl rfl (by rw [hka, List.length_range])) .nil
      · refine .old rfl rfl (GB.row (by rw [hka, List.length_range]; exact Nat.le_refl _) (fun q hq => ?_) (fun e => by cases e)) (.old rfl rfl (GB.one (GVs.imm rfl) (fun _ => rfl)) (.old rfl rfl (GB.one (GVs.imm rfl) (fun _ => rfl)) .nil))
        have hq' : q < l.length := by rw [hka, List.length_range] at hq; exact hq
        show GVs _ _ _ (Zfw l q) (Zfw l ((Za7 S l.length).getD q 0))
        have : (Za7 S l.length).getD q 0 = q := by rw [hka]; simp [List.getD_eq_getElem?_getD, hq']
        rw [this]
        exact Zbj hq' rfl rfl
      · exact Zcd (u := orH (Za6 [(u0, frow l l.length (fun x => x)), (u1, nbox ((l.length : Int) - 1)), (u2, sbox S)]) (Zbw l)) rfl
      · exact Zcd (u := orH (Za6 [(u0, frow l l.length (fun x => x)), (u1, nbox ((l.length : Int) - 1)), (u2, sbox S)]) (Zbw l)) rfl
    · exact absurd hb (by decide)
end Go.Proofs.Ytmanpbgaihdalaa
namespace Go.Proofs.Ytmanpbgaihdalaa
open Go Dv
set_option maxRecDepth 10000
set_option linter.unusedSimpArgs false
def Za4 (l : List Ins) : List Int := (l.filter fun x => decide (x.op = 11)).map (·.f)
def Zco (b : Zbk) : List Int := Za4 b.ins ++ if b.fin.kind = 4 then [b.fin.f] else []
def Zao (l : List Zbk) : List Int := l.flatMap Zco
theorem insCalls_yes {l : List Ins} {j : Nat} (h : j < l.length) (e : (l.getD j default).op = 11) : Za4 (l.take (j + 1)) = Za4 (l.take j) ++ [(l.getD j default).f] := by
  unfold Za4; rw [Zcf default h]; generalize l.getD j default = x at e ⊢; simp [List.filter_append, List.filter_cons, e]
theorem insCalls_no {l : List Ins} {j : Nat} (h : j < l.length) (e : ¬ (l.getD j default).op = 11) : Za4 (l.take (j + 1)) = Za4 (l.take j) := by
  unfold Za4; rw [Zcf default h]; generalize l.getD j default = x at e ⊢; simp [List.filter_append, List.filter_cons, e]
theorem funCalls_succ {l : List Zbk} {k : Nat} (h : k < l.length) : Zao (l.take (k + 1)) = Zao (l.take k) ++ Zco (l.getD k default) := by
  unfold Zao; rw [Zcf default h, List.flatMap_append]; simp
inductive CR (l : List Func) : Nat → Prop where
  | zero : 0 < l.length → CR l 0
  | step {n : Nat} {x : Int} : CR l n → n < l.length → x ∈ Zao (l.getD n default).blocks → CR l x.toNat
open Classical in
noncomputable def usedL (l : List Func) : List Bool := (List.range l.length).map fun i => decide (CR l i)
theorem usedL_len (l : List Func) : (usedL l).length = l.length := by simp [usedL]
open Classical in
theorem usedL_at {l : List Func} {i : Nat} (h : i < l.length) : (usedL l).getD i false = decide (CR l i) := by
  unfold usedL; rw [List.getD_eq_getElem?_getD, List.getElem?_map, List.getElem?_range h]; rfl
def wt (l : List Func) (out : List Bool) : Nat := ((List.range l.length).map fun i => bif out.getD i false then 0 else (Zao (l.getD i default).blocks).length + 1).sum
structure UI (l : List Func) (out : List Bool) (td : List Int) : Prop where
  len : out.length = l.length
  snd : ∀ i, out.getD i false = true → CR l i
  rng : ∀ x ∈ td, 0 ≤ x ∧ x < l.length ∧ CR l x.toNat
  cls : ∀ i, i < l.length → out.getD i false = true → ∀ x ∈ Zao (l.getD i default).blocks, out.getD x.toNat false = true ∨ x ∈ td
  zer : out.getD 0 false = true ∨ (0 : Int) ∈ td
  bnd : wt l out + td.length ≤ wt l (List.replicate l.length false) + 1
theorem UI.init {l : List Func} (h0 : 0 < l.length) : UI l (List.replicate l.length false) [0] := by
  refine ⟨by simp, fun i h => ?_, fun x hx => ?_, fun i hi h => ?_, .inr (by simp), by simp⟩
  · rw [List.getD_eq_getElem?_getD, List.getElem?_replicate] at h
    split at h <;> cases h
  · rw [List.mem_singleton] at hx; subst hx; exact ⟨Int.le_refl _, by omega, .zero h0⟩
  · rw [List.getD_eq_getElem?_getD, List.getElem?_replicate] at h
    split at h <;> cases h
theorem Zfn {l : List Bool} {i j : Nat} (hi : i < l.length) : (l.set i true).getD j false = bif Nat.beq i j then true else l.getD j false := by
  rw [List.getD_eq_getElem?_getD, List.getElem?_set, List.getD_eq_getElem?_getD]
  by_cases e : i = j
  · subst e; simp [hi]
  · have : Nat.beq i j = false := by rw [Bool.eq_false_iff]; intro h; exact e (Nat.eq_of_beq_eq_true h)
    rw [if_neg e, this]; rfl
theorem sum_split {n i : Nat} (hi : i < n) (f g : Nat → Nat) (c : Nat) (h1 : f i = g i + c) (h2 : ∀ j, j ≠ i → f j = g j) : ((List.range n).map f).sum = ((List.range n).map g).sum + c := by
  induction n with
  | zero => omega
  | succ n ih =>
    rw [List.range_succ, List.map_append, List.map_append, List.sum_append, List.sum_append]
    simp only [List.map_cons, List.map_nil, List.sum_cons, List.sum_nil, Nat.add_zero]
    by_cases e : i = n
    · subst e
      have : (List.range i).map f = (List.range i).map g := List.map_congr_left fun j hj => h2 j (by rw [List.mem_range] at hj; omega)
      rw [this]; omega
    · have := ih (by omega)
      have h3 := h2 n (by omega)
      omega
theorem wt_set {l : List Func} {out : List Bool} {i : Nat} (hi : i < l.length) (hl : out.length = l.length) (h : out.getD i false = false) : wt l out = wt l (out.set i true) + ((Zao (l.getD i default).blocks).length + 1) := by
  unfold wt
  refine sum_split hi _ _ _ ?_ (fun j hj => ?_)
  · rw [h, Zfn (by omega)]; simp
  · rw [Zfn (by omega)]
    have : Nat.beq i j = false := by rw [Bool.eq_false_iff]; intro h; exact hj (Nat.eq_of_beq_eq_true h).symm
    rw [this]; rfl
theorem UI.skip {l : List Func} {out : List Bool} {x : Int} {td : List Int} (h : UI l out (x :: td)) (hx : out.getD x.toNat false = true) : UI l out td := by
  have hr := h.rng x (by simp)
  refine ⟨h.len, h.snd, fun y hy => h.rng y (by simp [hy]), fun i hi ho y hy => ?_, ?_, ?_⟩
  · rcases h.cls i hi ho y hy with h1 | h1
    · exact .inl h1
    · rcases List.mem_cons.1 h1 with h2 | h2
      · subst h2; exact .inl hx
      · exact .inr h2
  · rcases h.zer with h1 | h1
    · exact .inl h1
    · rcases List.mem_cons.1 h1 with h2 | h2
      · subst h2; exact .inl hx
      · exact .inr h2
  · have := h.bnd; simp at this; omega
theorem UI.take {l : List Func} {out : List Bool} {x : Int} {td : List Int} (h : UI l out (x :: td)) (hx : out.getD x.toNat false = false) (hok : ∀ n, n < l.length → ∀ y ∈ Zao (l.getD n default).blocks, 0 ≤ y ∧ y < l.length) :
    UI l (out.set x.toNat true) (td ++ Zao (l.getD x.toNat default).blocks) := by
  have hr := h.rng x (by simp)
  have hxl : x.toNat < l.length := by omega
  have hxo : x.toNat < out.length := by rw [h.len]; exact hxl
  have key : ∀ j, out.getD j false = true → (out.set x.toNat true).getD j false = true := fun j hj => by rw [Zfn hxo, hj]; simp
  have hit : (out.set x.toNat true).getD x.toNat false = true := by rw [Zfn hxo]; simp
  refine ⟨by simp [h.len], fun i hi => ?_, fun y hy => ?_, fun i hi ho y hy => ?_, ?_, ?_⟩
  · rw [Zfn hxo] at hi
    cases e : Nat.beq x.toNat i with
    | true => have := Nat.eq_of_beq_eq_true e; subst this; exact hr.2.2
    | false => rw [e] at hi; exact h.snd i hi
  · rcases List.mem_append.1 hy with h1 | h1
    · exact h.rng y (by simp [h1])
    · have h2 := hok _ hxl y h1
      exact ⟨h2.1, h2.2, .step hr.2.2 hxl h1⟩
  · by_cases e : i = x.toNat
    · subst e; exact .inr (List.mem_append_right _ hy)
    · rw [Zfn hxo] at ho
      have : Nat.beq x.toNat i = false := by rw [Bool.eq_false_iff]; intro h; exact e (Nat.eq_of_beq_eq_true h).symm
      rw [this] at ho
      rcases h.cls i hi ho y hy with h1 | h1
      · exact .inl (key _ h1)
      · rcases List.mem_cons.1 h1 with h2 | h2
        · subst h2; exact .inl hit
        · exact .inr (List.mem_append_left _ h2)
  · rcases h.zer with h1 | h1
    · exact .inl (key _ h1)
    · rcases List.mem_cons.1 h1 with h2 | h2
      · subst h2; exact .inl hit
      · exact .inr (List.mem_append_left _ h2)
  · have h1 := h.bnd
    have h2 := wt_set hxl h.len hx
    rw [List.length_cons] at h1
    rw [List.length_append]
    omega
open Classical in
theorem UI.done {l : List Func} {out : List Bool} (h : UI l out []) : out = usedL l := by
  apply Zbo false (by rw [h.len, usedL_len])
  intro i hi
  rw [h.len] at hi
  rw [usedL_at hi, Bool.eq_iff_iff, decide_eq_true_eq]
  refine ⟨h.snd i, fun hc => ?_⟩
  clear hi
  induction hc with
  | zero h0 => rcases h.zer with h1 | h1
               · exact h1
               · cases h1
  | step h1 h2 h3 ih =>
    rcases h.cls _ h2 ih _ h3 with h4 | h4
    · exact h4
    · cases h4
theorem st_rowW {p td : List Int} {y : Int} {s' q : Nat} {F g : Nat → List AV} (hs : s' = 0 ∨ s' = p.length) (hF : ∀ i, F i = [iv ((p ++ td).getD (p.length - s' + i) 0)]) (hg : g 0 = [iv y]) (hq : q < s' + td.length + 1) :
    Wks (appR (s' + td.length) F g q) [iv ((p.drop (p.length - s') ++ (td ++ [y])).getD q 0)] := by
  have hl : (p.drop (p.length - s')).length = s' := by rw [List.length_drop]; omega
  have hd : (p ++ td).drop (p.length - s') = p.drop (p.length - s') ++ td := List.drop_append_of_le_length (by omega)
  refine Wks.of ?_
  by_cases e : q < s' + td.length
  · have : appR (s' + td.length) F g q = F q := by unfold appR; rw [show Nat.blt q (s' + td.length) = true from by rw [Nat.blt_eq]; exact e]; rfl
    rw [this, hF]
    congr 2
    rw [← List.append_assoc, ← hd]
    rw [List.getD_eq_getElem?_getD, List.getD_eq_getElem?_getD]
    have h3 : q < ((p ++ td).drop (p.length - s')).length := by rw [hd, List.length_append, hl]; exact e
    rw [List.getElem?_append_left h3, List.getElem?_drop]
  · have e2 : q = s' + td.length := by omega
    subst e2
    have : appR (s' + td.length) F g (s' + td.length) = g 0 := by unfold appR; rw [show Nat.blt (s' + td.length) (s' + td.length) = false from by rw [Bool.eq_false_iff]; intro h; rw [Nat.blt_eq] at h; omega, Nat.sub_self]; rfl
    rw [this, hg, ← List.append_assoc]
    congr 2
    have h2 : (p.drop (p.length - s') ++ td).length = s' + td.length := by rw [List.length_append, hl]
    simp [List.getD_eq_getElem?_getD, ← h2]
theorem len_snoc {l : List Int} {y : Int} : (l ++ [y]).length = l.length + 1 := by simp
theorem drop_len {p : List Int} {s' : Nat} (hs : s' = 0 ∨ s' = p.length) : (p.drop (p.length - s')).length = s' := by rw [List.length_drop]; omega
theorem insCalls_le (l : List Ins) (j : Nat) : (Za4 (l.take j)).length ≤ (Za4 l).length := by
  conv => rhs; rw [← List.take_append_drop j l]
  unfold Za4; rw [List.filter_append, List.map_append, List.length_append]; omega
theorem funCalls_le {l : List Zbk} {k : Nat} (h : k < l.length) : (Zao (l.take k)).length + (Zco (l.getD k default)).length ≤ (Zao l).length := by
  have h1 := funCalls_succ h
  have h2 : Zao l = Zao (l.take (k + 1)) ++ Zao (l.drop (k + 1)) := by
    conv => lhs; rw [← List.take_append_drop (k + 1) l]
    unfold Zao; rw [List.flatMap_append]
  rw [h2, h1, List.length_append, List.length_append]; omega
theorem get_mid {p td : List Int} {x : Int} : (p ++ x :: td).getD p.length 0 = x := by simp [List.getD_eq_getElem?_getD]
set_option maxHeartbeats 4000000 in
theorem c_used (l : List Func) (h0 : 0 < l.length) (hok : ∀ n, n < l.length → ∀ y ∈ Zao (l.getD n default).blocks, 0 ≤ y ∧ y < l.length) (hw : wt l (List.replicate l.length false) + 1 ≤ 4294967296) :
    FO Try.prog 93 [.agg (Zax ⟨l⟩)] 1 l.length (fun x => [.bool ((usedL l).getD x false)]) := by
  refine Zc6 tok Try.func93 rfl (by decide +kernel) (Nat.le_of_ble_eq_true rfl) ?_
  refine Zat 0 (fun hl => ?_)
  have hmx : maxL = 4294967296 := rfl
  have hl0 : l.length ≤ maxL := hl.1.1
  have hl1 : ∀ i, i < l.length → (l.getD i default).blocks.length ≤ maxL := fun i hi => (hl.1.2 i hi).2.2.1.1
  have hl2 : ∀ i, i < l.length → ∀ q, q < (l.getD i default).blocks.length → ((l.getD i default).blocks.getD q default).ins.length ≤ maxL := fun i hi q hq => ((hl.1.2 i hi).2.2.1.2 q hq).2.2.2.2.2.1.1
  clear hl
  ((repeat' first | refine Zad ?_ | (refine Zac tok (by rfl) ?_; conv => whnf) | refine Zaf ?_ | (refine @And.intro (Zaa _ _ _ _) _ ?_ ?_; rotate_left; (conv => whnf); rotate_right)); all_goals (try ((guard_target = Zaa _ _ _ _); refine Zae ?_; (all_goals (try simp only [Zaa, kzz, kz11, kz12, maxL, Zab] at *)); all_goals omega)))
  refine Zas (fun s : List Bool × List Int × List Int => mkS [(1, .bp (1, 0, 0) 0), (3, .rs (40, 0, 0) 1 0 l.length), (4, .rs (41, 0, 0) 1 (s.2.1).length (s.2.2).length)] [((1, 0, 0), Zan (Zax ⟨l⟩)), ((40, 0, 0), .row true 1 l.length (fun q => [.bool ((s.1).getD q false)])), ((41, 0, 0), .row true 1 (s.2.1 ++ s.2.2).length (fun q => [iv ((s.2.1 ++ s.2.2).getD q 0)]))]) (fun s => UI l s.1 s.2.2) (fun s => wt l s.1 + s.2.2.length) (List.replicate l.length false, [], [0]) (UI.init h0) ?_ ?_
  · refine Weak.list [((1, 0, 0), .old (1, 0, 0), Zan (Zax ⟨l⟩)), ((40, 0, 0), .old (13, 0, 0), .row true 1 l.length (fun q => [.bool (((List.replicate l.length false)).getD q false)])), ((41, 0, 0), .old (14, 0, 0), .row true 1 (([] : List Int) ++ ([0] : List Int)).length (fun q => [iv ((([] : List Int) ++ ([0] : List Int)).getD q 0)]))] rfl (by rfl) ?_ (.old rfl (BLe.refl _) (.old rfl (BLe.rowW (Nat.le_refl _) (fun z hz => Wks.of ?_)) (.old rfl (BLe.rowW (Nat.le_refl _) (fun z hz => Wks.of ?_)) .nil)))
    · ((repeat' first | exact TLes.nil | refine TLes.cons (TLe.eq rfl) ?_); skip)
    · show [AV.bool false] = _
      rw [List.getD_eq_getElem?_getD, List.getElem?_replicate, if_pos hz]; rfl
    · have : z = 0 := by simpa using hz
      subst this; rfl
  rintro ⟨out, p, td⟩ hI
  replace hI : UI l out td := hI
  have hol := hI.len
  have hbd := hI.bnd
  show AWp _ _ _ _ _ (mkS [(1, .bp (1, 0, 0) 0), (3, .rs (40, 0, 0) 1 0 l.length), (4, .rs (41, 0, 0) 1 (p).length (td).length)] [((1, 0, 0), Zan (Zax ⟨l⟩)), ((40, 0, 0), .row true 1 l.length (fun q => [.bool ((out).getD q false)])), ((41, 0, 0), .row true 1 (p ++ td).length (fun q => [iv ((p ++ td).getD q 0)]))])
  (repeat' ((fail_if_success (show AWp _ _ _ (Code.region 4 _ _) _ _)); (fail_if_success (show AWp _ _ _ (Code.region 20 _ _) _ _)); first | refine Zad ?_ | (refine Zac tok (by rfl) ?_; conv => whnf) | refine Zaf ?_ | (refine Zah ?_; conv => whnf) | (refine Zar ?_; conv => whnf) | refine Zag rfl (fun hb => ?_) (fun hb => ?_)))
  · cases td with
    | nil => simp at hb
    | cons x td =>
    clear hb
    have hlc : (x :: td).length = td.length + 1 := rfl
    have hla : (p ++ [x]).length = p.length + 1 := by simp
    have hlb : (p ++ [x] ++ td).length = p.length + (td.length + 1) := by simp
    have hlp : (p ++ x :: td).length = p.length + (td.length + 1) := List.length_append
    have hr := hI.rng x (by simp)
    obtain ⟨hx0, hx1, -⟩ := hr
    have hgm := get_mid (p := p) (td := td) (x := x)
    ((repeat' ((fail_if_success (show AWp _ _ _ (Code.region 6 _ _) _ _)); first | refine Zad ?_ | (refine Zac tok (by rfl) ?_; conv => whnf) | (refine @And.intro (Zaa _ _ _ _) _ ?_ ?_; rotate_left; (conv => whnf); rotate_right))); all_goals (try ((guard_target = Zaa _ _ _ _); refine Zae ?_; (all_goals (try simp only [Zaa, kzz, kz11, kz12, maxL, Zab] at *)); all_goals omega)))
    refine Zaz (Weak.list (tl := [(1, .bp (1, 0, 0) 0), (3, .rs (40, 0, 0) 1 0 l.length), (4, .rs (41, 0, 0) 1 ((p ++ [x])).length (td).length), (5, iv x)]) [((1, 0, 0), .old (1, 0, 0), Zan (Zax ⟨l⟩)), ((40, 0, 0), .old (40, 0, 0), .row true 1 l.length (fun q => [.bool ((out).getD q false)])), ((41, 0, 0), .old (41, 0, 0), .row true 1 ((p ++ [x]) ++ td).length (fun q => [iv (((p ++ [x]) ++ td).getD q 0)]))] rfl (by rfl) ?_ (.old rfl (BLe.refl _) (.old rfl (BLe.refl _) (.old rfl (BLe.rowW ?_ (fun z hz => Wks.of ?_)) .nil)))) ?_
    · refine .cons (.eq rfl) (.cons (.eq rfl) (.cons (.eq ?_) (.cons (.int ?_) .nil)))
      · show AV.rs (41, 0, 0) 1 (p.length + 1) (((x :: td).length : Int).toNat - 1) = AV.rs (41, 0, 0) 1 (p ++ [x]).length td.length
        rw [hla, Int.toNat_natCast, hlc]; rfl
      · exact hgm
    · rw [hlb, hlp]; exact Nat.le_refl _
    · rw [List.append_assoc]; rfl
    ((repeat' ((fail_if_success (show AWp _ _ _ (Code.region 7 _ _) _ _)); first | refine Zad ?_ | (refine Zac tok (by rfl) ?_; conv => whnf) | (refine Zah ?_; conv => whnf) | (refine Zar ?_; conv => whnf) | refine Zag rfl (fun hb => ?_) (fun hb => ?_) | (refine @And.intro (Zaa _ _ _ _) _ ?_ ?_; rotate_left; (conv => whnf); rotate_right))); all_goals (try ((guard_target = Zaa _ _ _ _); refine Zae ?_; (all_goals (try simp only [Zaa, kzz, kz11, kz12, maxL, Zab] at *)); all_goals omega)))
    · have hxo : out.getD x.toNat false = true := by rw [Nat.zero_add] at hb; exact hb
      clear hb
      refine ⟨(out, p ++ [x], td), hI.skip hxo, ?_, ?_⟩
      · show wt l out + td.length < wt l out + (x :: td).length
        rw [hlc]; omega
      refine Weak.list [((1, 0, 0), .old (1, 0, 0), Zan (Zax ⟨l⟩)), ((40, 0, 0), .old (40, 0, 0), .row true 1 l.length (fun q => [.bool ((out).getD q false)])), ((41, 0, 0), .old (41, 0, 0), .row true 1 ((p ++ [x]) ++ td).length (fun q => [iv (((p ++ [x]) ++ td).getD q 0)]))] rfl (by rfl) ?_ (.old rfl (BLe.refl _) (.old rfl (BLe.refl _) (.old rfl (BLe.refl _) .nil)))
      ((repeat' first | exact TLes.nil | refine TLes.cons (TLe.eq rfl) ?_); skip)
    · have hxo : out.getD x.toNat false = false := by rw [Nat.zero_add] at hb; exact hb
      clear hb
      have hT := hI.take hxo hok
      have hTb := hT.bnd
      have hxl : x.toNat < l.length := by omega
      have hws := wt_set hxl hol hxo
      have hgen : ∃ o2, out.set x.toNat true = o2 := ⟨_, rfl⟩
      obtain ⟨o2, ho2⟩ := hgen
      have hgt : ∀ q, updR (fun q => [AV.bool (out.getD q false)]) (0 + x.toNat) [.bool true] q = [AV.bool (o2.getD q false)] := fun q => by
        rw [← ho2, Zfn (by omega), Nat.zero_add]
        unfold updR; cases Nat.beq x.toNat q <;> rfl
      rw [ho2] at hT hTb hws
      have hgen : ∃ bs, (l.getD x.toNat default).blocks = bs := ⟨_, rfl⟩
      obtain ⟨bs, hbs⟩ := hgen
      have hb1 := hl1 _ hxl
      have hb2 := hl2 _ hxl
      rw [hbs] at hT hTb hws hb1 hb2
      rw [List.length_append] at hTb
      ((repeat' first | refine Zad ?_ | (refine Zac tok (by rfl) ?_; conv => whnf) | (refine @And.intro (Zaa _ _ _ _) _ ?_ ?_; rotate_left; (conv => whnf); rotate_right)); all_goals (try ((guard_target = Zaa _ _ _ _); refine Zae ?_; (all_goals (try simp only [Zaa, kzz, kz11, kz12, maxL, Zab] at *)); all_goals omega)))
      refine Zaf ?_
      refine Zas (fun s : Nat × List Int => mkS [(1, .bp (1, 0, 0) 0), (3, .rs (40, 0, 0) 1 0 l.length), (4, .rs (41, 0, 0) 1 (s.2).length ((td ++ Zao (bs.take s.1))).length), (35, Zbn bs), (36, iv bs.length), (37, iv s.1)] [((1, 0, 0), Zan (Zax ⟨l⟩)), ((40, 0, 0), .row true 1 l.length (fun q => [.bool ((o2).getD q false)])), ((41, 0, 0), .row true 1 (s.2 ++ (td ++ Zao (bs.take s.1))).length (fun q => [iv ((s.2 ++ (td ++ Zao (bs.take s.1))).getD q 0)]))]) (fun s => s.1 ≤ bs.length) (fun s => bs.length - s.1) (0, p ++ [x]) (Nat.zero_le _) ?_ ?_
      · refine Weak.list [((1, 0, 0), .old (1, 0, 0), Zan (Zax ⟨l⟩)), ((40, 0, 0), .old (40, 0, 0), .row true 1 l.length (fun q => [.bool ((o2).getD q false)])), ((41, 0, 0), .old (41, 0, 0), .row true 1 ((p ++ [x]) ++ (td ++ Zao (bs.take 0))).length (fun q => [iv (((p ++ [x]) ++ (td ++ Zao (bs.take 0))).getD q 0)]))] rfl (by rfl) ?_ (.old rfl (BLe.refl _) (.old rfl (BLe.rowW (Nat.le_refl _) (fun z hz => Wks.of ?_)) (.old rfl (BLe.rowW ?_ (fun z hz => Wks.of ?_)) .nil)))
        · refine .cons (.eq rfl) (.cons (.eq rfl) (.cons (.eq ?_) (.cons (.eq ?_) (.cons (.int ?_) (.cons (.eq rfl) .nil)))))
          · show AV.rs (41, 0, 0) 1 (p ++ [x]).length td.length = _
            rw [List.take_zero]; show _ = AV.rs (41, 0, 0) 1 (p ++ [x]).length (td ++ []).length; rw [List.append_nil]
          · show Zbn (l.getD x.toNat default).blocks = _
            rw [hbs]
          · show ((l.getD x.toNat default).blocks.length : Int) = _
            rw [hbs]
        · exact hgt z
        · rw [List.take_zero]; show (p ++ [x] ++ (td ++ [])).length ≤ _; rw [List.append_nil]; exact Nat.le_refl _
        · rw [List.take_zero]; show _ = [iv ((p ++ [x] ++ (td ++ [])).getD z 0)]; rw [List.append_nil]; rfl
      rintro ⟨k, p⟩ hk
      replace hk : k ≤ bs.length := hk
      show AWp _ _ _ _ _ (mkS [(1, .bp (1, 0, 0) 0), (3, .rs (40, 0, 0) 1 0 l.length), (4, .rs (41, 0, 0) 1 (p).length ((td ++ Zao (bs.take k))).length), (35, Zbn bs), (36, iv bs.length), (37, iv k)] [((1, 0, 0), Zan (Zax ⟨l⟩)), ((40, 0, 0), .row true 1 l.length (fun q => [.bool ((o2).getD q false)])), ((41, 0, 0), .row true 1 (p ++ (td ++ Zao (bs.take k))).length (fun q => [iv ((p ++ (td ++ Zao (bs.take k))).getD q 0)]))])
      (repeat' ((fail_if_success (show AWp _ _ _ (Code.region 10 _ _) _ _)); first | refine Zad ?_ | (refine Zac tok (by rfl) ?_; conv => whnf) | refine Zaf ?_ | (refine Zah ?_; conv => whnf) | (refine Zar ?_; conv => whnf) | refine Zag rfl (fun hb => ?_) (fun hb => ?_)))
      · have hkl : k < bs.length := by simp only [decide_eq_true_eq] at hb; omega
        clear hb
        have hgen : ∃ b, bs.getD k default = b := ⟨_, rfl⟩
        obtain ⟨b, hbk⟩ := hgen
        have hfl := funCalls_le hkl
        have hfs := funCalls_succ hkl
        have hb3 := hb2 k hkl
        rw [hbk] at hfl hfs hb3
        have hbl : (Zco b).length = (Za4 b.ins).length + (if b.fin.kind = 4 then [b.fin.f] else []).length := List.length_append
        ((repeat' ((fail_if_success (show AWp _ _ _ (Code.region 11 _ _) _ _)); first | refine Zad ?_ | (refine Zac tok (by rfl) ?_; conv => whnf) | (refine @And.intro (Zaa _ _ _ _) _ ?_ ?_; rotate_left; (conv => whnf); rotate_right))); all_goals (try ((guard_target = Zaa _ _ _ _); refine Zae ?_; (all_goals (try simp only [Zaa, kzz, kz11, kz12, maxL, Zab] at *)); all_goals omega)))
        refine Zaz (Weak.list (tl := [(1, .bp (1, 0, 0) 0), (3, .rs (40, 0, 0) 1 0 l.length), (4, .rs (41, 0, 0) 1 (p).length ((td ++ Zao (bs.take k))).length), (7, .bp (7, 0, 0) 0), (35, Zbn bs), (36, iv bs.length), (37, iv k)]) [((1, 0, 0), .old (1, 0, 0), Zan (Zax ⟨l⟩)), ((40, 0, 0), .old (40, 0, 0), .row true 1 l.length (fun q => [.bool ((o2).getD q false)])), ((41, 0, 0), .old (41, 0, 0), .row true 1 (p ++ (td ++ Zao (bs.take k))).length (fun q => [iv ((p ++ (td ++ Zao (bs.take k))).getD q 0)])), ((7, 0, 0), .old (7, 0, 0), .row true 14 1 (fun _ => Zam b))] rfl (by rfl) ?_ (.old rfl (BLe.refl _) (.old rfl (BLe.refl _) (.old rfl (BLe.refl _) (.old rfl (BLe.rowW (Nat.le_refl _) (ltS (Wks.of (by rw [← hbk, Int.toNat_natCast]; rfl)) lt0)) .nil))))) ?_
        · ((repeat' first | exact TLes.nil | refine TLes.cons (TLe.eq rfl) ?_); skip)
        (repeat' (refine Zac tok (by rfl) ?_; conv => whnf))
        refine Zaf ?_
        refine Zas (fun s : Nat × List Int => mkS [(1, .bp (1, 0, 0) 0), (3, .rs (40, 0, 0) 1 0 l.length), (4, .rs (41, 0, 0) 1 (s.2).length ((td ++ Zao (bs.take k) ++ Za4 (b.ins.take s.1))).length), (7, .bp (7, 0, 0) 0), (35, Zbn bs), (36, iv bs.length), (37, iv k), (42, inss b.ins), (43, iv b.ins.length), (44, iv s.1)] [((1, 0, 0), Zan (Zax ⟨l⟩)), ((40, 0, 0), .row true 1 l.length (fun q => [.bool ((o2).getD q false)])), ((41, 0, 0), .row true 1 (s.2 ++ (td ++ Zao (bs.take k) ++ Za4 (b.ins.take s.1))).length (fun q => [iv ((s.2 ++ (td ++ Zao (bs.take k) ++ Za4 (b.ins.take s.1))).getD q 0)])), ((7, 0, 0), .row true 14 1 (fun _ => Zam b))]) (fun s => s.1 ≤ b.ins.length) (fun s => b.ins.length - s.1) (0, p) (Nat.zero_le _) ?_ ?_
        · refine Weak.list [((1, 0, 0), .old (1, 0, 0), Zan (Zax ⟨l⟩)), ((40, 0, 0), .old (40, 0, 0), .row true 1 l.length (fun q => [.bool ((o2).getD q false)])), ((41, 0, 0), .old (41, 0, 0), .row true 1 (p ++ (td ++ Zao (bs.take k) ++ Za4 (b.ins.take 0))).length (fun q => [iv ((p ++ (td ++ Zao (bs.take k) ++ Za4 (b.ins.take 0))).getD q 0)])), ((7, 0, 0), .old (7, 0, 0), .row true 14 1 (fun _ => Zam b))] rfl (by rfl) ?_ (.old rfl (BLe.refl _) (.old rfl (BLe.refl _) (.old rfl (BLe.rowW ?_ (fun z hz => Wks.of ?_)) (.old rfl (BLe.refl _) .nil))))
          · refine .cons (.eq rfl) (.cons (.eq rfl) (.cons (.eq ?_) (.cons (.eq rfl) (.cons (.eq rfl) (.cons (.eq rfl) (.cons (.eq rfl) (.cons (.eq rfl) (.cons (.eq rfl) (.cons (.eq rfl) .nil)))))))))
            show AV.rs (41, 0, 0) 1 p.length (td ++ Zao (bs.take k)).length = _
            rw [List.take_zero]; show _ = AV.rs (41, 0, 0) 1 p.length (td ++ Zao (bs.take k) ++ []).length; rw [List.append_nil]
          · rw [List.take_zero]; show (p ++ (td ++ Zao (bs.take k) ++ [])).length ≤ _; rw [List.append_nil]; exact Nat.le_refl _
          · rw [List.take_zero]; show _ = [iv ((p ++ (td ++ Zao (bs.take k) ++ [])).getD z 0)]; rw [List.append_nil]; rfl
        rintro ⟨j, p⟩ hj
        replace hj : j ≤ b.ins.length := hj
        show AWp _ _ _ _ _ (mkS [(1, .bp (1, 0, 0) 0), (3, .rs (40, 0, 0) 1 0 l.length), (4, .rs (41, 0, 0) 1 (p).length ((td ++ Zao (bs.take k) ++ Za4 (b.ins.take j))).length), (7, .bp (7, 0, 0) 0), (35, Zbn bs), (36, iv bs.length), (37, iv k), (42, inss b.ins), (43, iv b.ins.length), (44, iv j)] [((1, 0, 0), Zan (Zax ⟨l⟩)), ((40, 0, 0), .row true 1 l.length (fun q => [.bool ((o2).getD q false)])), ((41, 0, 0), .row true 1 (p ++ (td ++ Zao (bs.take k) ++ Za4 (b.ins.take j))).length (fun q => [iv ((p ++ (td ++ Zao (bs.take k) ++ Za4 (b.ins.take j))).getD q 0)])), ((7, 0, 0), .row true 14 1 (fun _ => Zam b))])
        have hlE : (td ++ Zao (bs.take k) ++ Za4 (b.ins.take j)).length = td.length + (Zao (bs.take k)).length + (Za4 (b.ins.take j)).length := by rw [List.length_append, List.length_append]
        have hil := insCalls_le b.ins j
        ((repeat' ((fail_if_success (show AWp _ _ _ (Code.region 15 _ _) _ _)); (fail_if_success (show AWp _ _ _ (Code.region 17 _ _) _ _)); first | refine Zad ?_ | (refine Zac tok (by rfl) ?_; conv => whnf) | refine Zaf ?_ | (refine Zah ?_; conv => whnf) | (refine Zar ?_; conv => whnf) | refine Zag rfl (fun hb => ?_) (fun hb => ?_) | (refine @And.intro (Zaa _ _ _ _) _ ?_ ?_; rotate_left; (conv => whnf); rotate_right))); all_goals (try ((guard_target = Zaa _ _ _ _); refine Zae ?_; (all_goals (try simp only [Zaa, kzz, kz11, kz12, maxL, Zab] at *)); all_goals omega)))
        · have hjl : j < b.ins.length := by rename_i hb0; simp only [decide_eq_true_eq] at hb0; omega
          have h11 : (b.ins.getD j default).op = 11 := by simpa using hb
          clear hb
          have hyy := insCalls_yes hjl h11
          have hil2 := insCalls_le b.ins (j + 1)
          rw [hyy, List.length_append] at hil2
          have hyes : td ++ Zao (bs.take k) ++ Za4 (b.ins.take (j + 1)) = td ++ Zao (bs.take k) ++ Za4 (b.ins.take j) ++ [(b.ins.getD j default).f] := by rw [hyy, ← List.append_assoc]
          refine AWp_appSt tok 4 rfl (by rfl) rfl rfl rfl rfl rfl rfl ?_
          conv => whnf
          refine ⟨_, _, _, _, _, rfl, rfl, ⟨?_, ?_, ?_⟩, fun s' hs' => ?_⟩
          · exact Zbx rfl (Nat.le_refl _)
          · exact Nat.le_of_eq (List.length_append).symm
          · show (td ++ Zao (bs.take k) ++ Za4 (b.ins.take j)).length + 1 ≤ _
            omega
          have hdl := drop_len hs'
          refine ⟨rfl, ?_⟩
          conv => whnf
          (repeat' (refine Zac tok (by rfl) ?_; conv => whnf))
          refine ⟨(j + 1, p.drop (p.length - s')), hjl, ?_, ?_⟩
          · show b.ins.length - (j + 1) < b.ins.length - j
            omega
          refine Weak.list [((1, 0, 0), .old (1, 0, 0), Zan (Zax ⟨l⟩)), ((40, 0, 0), .old (40, 0, 0), .row true 1 l.length (fun q => [.bool ((o2).getD q false)])), ((41, 0, 0), .old (55, 0, 0), .row true 1 ((p.drop (p.length - s')) ++ (td ++ Zao (bs.take k) ++ Za4 (b.ins.take (j + 1)))).length (fun q => [iv (((p.drop (p.length - s')) ++ (td ++ Zao (bs.take k) ++ Za4 (b.ins.take (j + 1)))).getD q 0)])), ((7, 0, 0), .old (7, 0, 0), .row true 14 1 (fun _ => Zam b))] rfl (by rfl) ?_ (.old rfl (BLe.refl _) (.old rfl (BLe.refl _) (.old rfl (BLe.rowW ?_ (fun z hz => ?_)) (.old rfl (BLe.refl _) .nil))))
          · refine .cons (.eq rfl) (.cons (.eq rfl) (.cons (.eq ?_) (.cons (.eq rfl) (.cons (.eq rfl) (.cons (.eq rfl) (.cons (.eq rfl) (.cons (.eq rfl) (.cons (.eq rfl) (.cons (.int ?_) .nil)))))))))
            · show AV.rs (41, 0, 0) 1 s' ((td ++ Zao (bs.take k) ++ Za4 (b.ins.take j)).length + 1) = _
              rw [hdl, hyes, len_snoc (l := td ++ Zao (bs.take k) ++ Za4 (b.ins.take j))]
            · rw [Zal (by omega) (by omega)]; rfl
          · show _ ≤ s' + (td ++ Zao (bs.take k) ++ Za4 (b.ins.take j)).length + 1
            rw [hyes, List.length_append, hdl, len_snoc (l := td ++ Zao (bs.take k) ++ Za4 (b.ins.take j)), Nat.add_assoc]; exact Nat.le_refl _
          · rw [hyes] at hz ⊢
            rw [List.length_append, hdl, len_snoc (l := td ++ Zao (bs.take k) ++ Za4 (b.ins.take j)), ← Nat.add_assoc] at hz
            exact st_rowW hs' (fun _ => rfl) rfl hz
        · have hjl : j < b.ins.length := by rename_i hb0; simp only [decide_eq_true_eq] at hb0; omega
          have h11 : ¬ (b.ins.getD j default).op = 11 := by simpa using hb
          clear hb
          have hno := insCalls_no hjl h11
          refine ⟨(j + 1, p), hjl, ?_, ?_⟩
          · show b.ins.length - (j + 1) < b.ins.length - j
            omega
          refine Weak.list [((1, 0, 0), .old (1, 0, 0), Zan (Zax ⟨l⟩)), ((40, 0, 0), .old (40, 0, 0), .row true 1 l.length (fun q => [.bool ((o2).getD q false)])), ((41, 0, 0), .old (41, 0, 0), .row true 1 (p ++ (td ++ Zao (bs.take k) ++ Za4 (b.ins.take (j + 1)))).length (fun q => [iv ((p ++ (td ++ Zao (bs.take k) ++ Za4 (b.ins.take (j + 1)))).getD q 0)])), ((7, 0, 0), .old (7, 0, 0), .row true 14 1 (fun _ => Zam b))] rfl (by rfl) ?_ (.old rfl (BLe.refl _) (.old rfl (BLe.refl _) (.old rfl (BLe.rowW ?_ (fun z hz => Wks.of ?_)) (.old rfl (BLe.refl _) .nil))))
          · refine .cons (.eq rfl) (.cons (.eq rfl) (.cons (.eq ?_) (.cons (.eq rfl) (.cons (.eq rfl) (.cons (.eq rfl) (.cons (.eq rfl) (.cons (.eq rfl) (.cons (.eq rfl) (.cons (.int ?_) .nil)))))))))
            · rw [hno]; rfl
            · rw [Zal (by omega) (by omega)]; rfl
          · rw [hno]; exact Nat.le_refl _
          · rw [hno]; rfl
        · have hjl : j = b.ins.length := by simp only [decide_eq_false_iff_not] at hb; omega
          clear hb
          rw [hjl, List.take_length] at hlE ⊢
          (repeat' ((fail_if_success (show AWp _ _ _ (Code.region 18 _ _) _ _)); first | (refine Zac tok (by rfl) ?_; conv => whnf) | (refine Zah ?_; conv => whnf) | refine Zag rfl (fun hb => ?_) (fun hb => ?_)))
          · have h4 : b.fin.kind = 4 := by simpa using hb
            clear hb
            rw [if_pos h4] at hbl
            have hbl' : (Zco b).length = (Za4 b.ins).length + 1 := hbl
            have hyes : td ++ Zao (bs.take (k + 1)) = td ++ Zao (bs.take k) ++ Za4 b.ins ++ [b.fin.f] := by
              rw [hfs]; unfold Zco; rw [if_pos h4, List.append_assoc, List.append_assoc]
            refine AWp_appSt tok 5 rfl (by rfl) rfl rfl rfl rfl rfl rfl ?_
            conv => whnf
            refine ⟨_, _, _, _, _, rfl, rfl, ⟨?_, ?_, ?_⟩, fun s' hs' => ?_⟩
            · exact Zbx rfl (Nat.le_refl _)
            · exact Nat.le_of_eq (List.length_append).symm
            · show (td ++ Zao (bs.take k) ++ Za4 b.ins).length + 1 ≤ _
              omega
            have hdl := drop_len hs'
            refine ⟨rfl, ?_⟩
            conv => whnf
            (repeat' (refine Zac tok (by rfl) ?_; conv => whnf))
            refine ⟨(k + 1, p.drop (p.length - s')), hkl, ?_, ?_⟩
            · show bs.length - (k + 1) < bs.length - k
              omega
            refine Weak.list [((1, 0, 0), .old (1, 0, 0), Zan (Zax ⟨l⟩)), ((40, 0, 0), .old (40, 0, 0), .row true 1 l.length (fun q => [.bool ((o2).getD q false)])), ((41, 0, 0), .old (66, 0, 0), .row true 1 ((p.drop (p.length - s')) ++ (td ++ Zao (bs.take (k + 1)))).length (fun q => [iv (((p.drop (p.length - s')) ++ (td ++ Zao (bs.take (k + 1)))).getD q 0)]))] rfl (by rfl) ?_ (.old rfl (BLe.refl _) (.old rfl (BLe.refl _) (.old rfl (BLe.rowW ?_ (fun z hz => ?_)) .nil)))
            · refine .cons (.eq rfl) (.cons (.eq rfl) (.cons (.eq ?_) (.cons (.eq rfl) (.cons (.eq rfl) (.cons (.int ?_) .nil)))))
              · show AV.rs (41, 0, 0) 1 s' ((td ++ Zao (bs.take k) ++ Za4 b.ins).length + 1) = _
                rw [hdl, hyes, len_snoc (l := td ++ Zao (bs.take k) ++ Za4 b.ins)]
              · rw [Zal (by omega) (by omega)]; rfl
            · show _ ≤ s' + (td ++ Zao (bs.take k) ++ Za4 b.ins).length + 1
              rw [hyes, List.length_append, hdl, len_snoc (l := td ++ Zao (bs.take k) ++ Za4 b.ins), Nat.add_assoc]; exact Nat.le_refl _
            · rw [hyes] at hz ⊢
              rw [List.length_append, hdl, len_snoc (l := td ++ Zao (bs.take k) ++ Za4 b.ins), ← Nat.add_assoc] at hz
              exact st_rowW hs' (fun _ => rfl) rfl hz
          · have h4 : ¬ b.fin.kind = 4 := by simpa using hb
            clear hb
            have hno : td ++ Zao (bs.take (k + 1)) = td ++ Zao (bs.take k) ++ Za4 b.ins := by
              rw [hfs]; unfold Zco; rw [if_neg h4, List.append_nil, List.append_assoc]
            refine ⟨(k + 1, p), hkl, ?_, ?_⟩
            · show bs.length - (k + 1) < bs.length - k
              omega
            refine Weak.list [((1, 0, 0), .old (1, 0, 0), Zan (Zax ⟨l⟩)), ((40, 0, 0), .old (40, 0, 0), .row true 1 l.length (fun q => [.bool ((o2).getD q false)])), ((41, 0, 0), .old (41, 0, 0), .row true 1 (p ++ (td ++ Zao (bs.take (k + 1)))).length (fun q => [iv ((p ++ (td ++ Zao (bs.take (k + 1)))).getD q 0)]))] rfl (by rfl) ?_ (.old rfl (BLe.refl _) (.old rfl (BLe.refl _) (.old rfl (BLe.rowW ?_ (fun z hz => Wks.of ?_)) .nil)))
            · refine .cons (.eq rfl) (.cons (.eq rfl) (.cons (.eq ?_) (.cons (.eq rfl) (.cons (.eq rfl) (.cons (.int ?_) .nil)))))
              · rw [hno]; rfl
              · rw [Zal (by omega) (by omega)]; rfl
            · rw [hno]; exact Nat.le_refl _
            · rw [hno]; rfl
      · have hkl : k = bs.length := by simp only [decide_eq_false_iff_not] at hb; omega
        clear hb
        have htk : bs.take k = bs := by rw [hkl, List.take_length]
        rw [htk]
        refine ⟨(o2, p, td ++ Zao bs), hT, ?_, ?_⟩
        · show wt l o2 + (td ++ Zao bs).length < wt l out + (x :: td).length
          rw [List.length_append, hlc]; omega
        refine Weak.list [((1, 0, 0), .old (1, 0, 0), Zan (Zax ⟨l⟩)), ((40, 0, 0), .old (40, 0, 0), .row true 1 l.length (fun q => [.bool ((o2).getD q false)])), ((41, 0, 0), .old (41, 0, 0), .row true 1 (p ++ (td ++ Zao bs)).length (fun q => [iv ((p ++ (td ++ Zao bs)).getD q 0)]))] rfl (by rfl) ?_ (.old rfl (BLe.refl _) (.old rfl (BLe.refl _) (.old rfl (BLe.refl _) .nil)))
        ((repeat' first | exact TLes.nil | refine TLes.cons (TLe.eq rfl) ?_); skip)
  · have : td = [] := by
      cases td with
      | nil => rfl
      | cons x td => simp at hb
    subst this
    clear hb
    have hu := hI.done
    (repeat' first | (refine Zac tok (by rfl) ?_; conv => whnf) | (refine Zaj ?_; conv => whnf))
    exact ⟨_, rfl, RelO.rs rfl (Nat.le_refl _) rfl (fun i hi => by rw [hu])⟩
end Go.Proofs.Ytmanpbgaihdalaa
namespace Go.Proofs.Ytmanpbgaihdalaa
open Go Dv
set_option maxRecDepth 10000
set_option linter.unusedSimpArgs false
theorem Zfs {α : Type} {l : List α} {x : α} (d : α) : x ∈ l ↔ ∃ i, i < l.length ∧ l.getD i d = x := by
  constructor
  · intro h
    obtain ⟨i, hi, rfl⟩ := List.getElem_of_mem h
    exact ⟨i, hi, Zbh d hi⟩
  · rintro ⟨i, hi, rfl⟩
    rw [Zbh d hi]; exact List.getElem_mem hi
theorem Ze1 {b : Zbk} {y : Int} : y ∈ Zco b ↔ (∃ j, j < b.ins.length ∧ (b.ins.getD j default).op = 11 ∧ (b.ins.getD j default).f = y) ∨ (b.fin.kind = 4 ∧ b.fin.f = y) := by
  unfold Zco Za4
  rw [List.mem_append, List.mem_map]
  refine or_congr ⟨?_, ?_⟩ ?_
  · rintro ⟨x, hx, rfl⟩
    rw [List.mem_filter] at hx
    obtain ⟨j, hj, e⟩ := (Zfs default).1 hx.1
    exact ⟨j, hj, by rw [e]; simpa using hx.2, by rw [e]⟩
  · rintro ⟨j, hj, h1, rfl⟩
    exact ⟨_, List.mem_filter.2 ⟨(Zfs default).2 ⟨j, hj, rfl⟩, by simpa using h1⟩, rfl⟩
  · by_cases h : b.fin.kind = 4
    · simp [h, eq_comm]
    · simp [h]
theorem funCalls_mem {l : List Zbk} {y : Int} : y ∈ Zao l ↔ ∃ i, i < l.length ∧ y ∈ Zco (l.getD i default) := by
  unfold Zao
  rw [List.mem_flatMap]
  constructor
  · rintro ⟨b, hb, h⟩
    obtain ⟨i, hi, e⟩ := (Zfs default).1 hb
    exact ⟨i, hi, by rw [e]; exact h⟩
  · rintro ⟨i, hi, h⟩
    exact ⟨_, (Zfs default).2 ⟨i, hi, rfl⟩, h⟩
theorem r13_calls {f : Func} {y : Int} (h : y ∈ Zao (Zbm f).blocks) : y ∈ Zao f.blocks := by
  rw [funCalls_mem] at h ⊢
  obtain ⟨i, hi, hy⟩ := h
  obtain ⟨n, hn, e1, e2, e3⟩ := ref13_from hi
  refine ⟨n, hn, ?_⟩
  rw [Ze1] at hy ⊢
  rw [e1, e2, e3] at hy
  exact hy
theorem right_calls {m : Za1} (hr : Zc0 m = true) {n : Nat} (hn : n < m.funcs.length) {y : Int} (h : y ∈ Zao (m.funcs.getD n default).blocks) : 0 ≤ y ∧ y < m.funcs.length := by
  rw [funCalls_mem] at h
  obtain ⟨i, hi, hy⟩ := h
  have hok := blk_ok (Zfu (Zdu hr hn) hi)
  rcases Ze1.1 hy with ⟨j, hj, h1, rfl⟩ | ⟨h4, rfl⟩
  · exact hok.ins j hj h1
  · exact hok.fn h4
theorem clr_calls {m : Za1} (hr : Zc0 m = true) {n : Nat} (hn : n < m.funcs.length) {y : Int} (h : y ∈ Zao ((clrM m).funcs.getD n default).blocks) : 0 ≤ y ∧ y < m.funcs.length := by
  rw [clrM_at hn] at h
  exact right_calls hr hn (r13_calls h)
theorem sum_leC {n c : Nat} {f : Nat → Nat} (h : ∀ i, i < n → f i ≤ c) : ((List.range n).map f).sum ≤ n * c := by
  induction n with
  | zero => simp
  | succ n ih =>
    rw [List.range_succ, List.map_append, List.sum_append, Nat.succ_mul]
    have h1 := ih (fun i hi => h i (by omega))
    have h2 := h n (Nat.lt_succ_self n)
    simp only [List.map_cons, List.map_nil, List.sum_cons, List.sum_nil]
    omega
theorem funCalls_len {l : List Zbk} (h : ∀ i, i < l.length → (l.getD i default).ins.length ≤ 64) : (Zao l).length ≤ l.length * 65 := by
  induction l with
  | nil => simp [Zao]
  | cons b l ih =>
    have h0 := h 0 (Nat.zero_lt_succ _)
    have h1 := ih (fun i hi => h (i + 1) (Nat.succ_lt_succ hi))
    have : Zao (b :: l) = Zco b ++ Zao l := by unfold Zao; rw [List.flatMap_cons]
    rw [this, List.length_append, List.length_cons, Nat.succ_mul]
    have hb : (Zco b).length ≤ 65 := by
      unfold Zco Za4
      rw [List.length_append, List.length_map]
      have h2 := List.length_filter_le (fun x : Ins => decide (x.op = 11)) b.ins
      have h3 : b.ins.length ≤ 64 := h0
      split <;> simp <;> omega
    omega
theorem r13_le (f : Func) : (Zbm f).blocks.length ≤ f.blocks.length := by
  unfold Zbm
  split
  · exact keptB_le f _ _
  · exact Nat.le_refl _
theorem right_bounds {m : Za1} (hr : Zc0 m = true) : 1 ≤ m.funcs.length ∧ m.funcs.length ≤ 16 ∧ ∀ n, n < m.funcs.length → (m.funcs.getD n default).blocks.length ≤ 64 ∧ ∀ i, i < (m.funcs.getD n default).blocks.length → ((m.funcs.getD n default).blocks.getD i default).ins.length ≤ 64 := by
  have h := hr
  unfold Zc0 at h
  rw [Bool.and_eq_true, decide_eq_true_eq] at h
  refine ⟨h.1.1, h.1.2.1, fun n hn => ⟨?_, fun i hi => ?_⟩⟩
  · have hF := Zdu hr hn
    unfold Zfv at hF
    rw [Bool.and_eq_true, decide_eq_true_eq] at hF
    exact hF.1.2.2.2.2.2.1
  · have hB := Zfu (Zdu hr hn) hi
    unfold blkB at hB
    rw [Bool.and_eq_true, decide_eq_true_eq] at hB
    exact hB.1.1
theorem clr_wt {m : Za1} (hr : Zc0 m = true) : wt (clrM m).funcs (List.replicate (clrM m).funcs.length false) + 1 ≤ 4294967296 := by
  obtain ⟨_, h16, hb⟩ := right_bounds hr
  have hl := clrM_len m
  have h1 : wt (clrM m).funcs (List.replicate (clrM m).funcs.length false) ≤ (clrM m).funcs.length * 4161 := by
    unfold wt
    refine sum_leC fun i hi => ?_
    rw [hl] at hi
    obtain ⟨hb1, hb2⟩ := hb i hi
    rw [clrM_at hi]
    have h2 := funCalls_len (l := (Zbm (m.funcs.getD i default)).blocks) (fun k hk => by
      obtain ⟨n, hn, e1, _⟩ := ref13_from hk
      rw [e1]; exact hb2 n hn)
    have h3 := r13_le (m.funcs.getD i default)
    cases (List.replicate (clrM m).funcs.length false).getD i false with
    | true => simp
    | false => simp only [cond_false]; omega
  rw [hl] at h1
  rw [hl]
  omega
theorem addN_mem {o : List Int} {k x : Int} : x ∈ addN o k ↔ x ∈ o ∨ x = k := by
  unfold addN
  split
  · rename_i h
    refine ⟨.inl, fun h2 => h2.elim id (fun e => e ▸ h)⟩
  · simp
theorem Zfi {x : Int} : ∀ {l o : List Int}, x ∈ Zce o l ↔ x ∈ o ∨ x ∈ l
  | [], o => by simp [Zce]
  | y :: l, o => by
      show x ∈ Zce (addN o y) l ↔ _
      rw [Zfi, addN_mem, List.mem_cons, or_assoc]
theorem addN_pre {o : List Int} {k : Int} {i : Nat} (hi : i < o.length) : (addN o k).getD i 0 = o.getD i 0 := by
  unfold addN
  split
  · rfl
  · simp [List.getD_eq_getElem?_getD, List.getElem?_append_left hi]
theorem addAll_pre {i : Nat} : ∀ {l o : List Int}, i < o.length → (Zce o l).getD i 0 = o.getD i 0
  | [], _, _ => rfl
  | y :: l, o, hi => by
      show (Zce (addN o y) l).getD i 0 = _
      rw [addAll_pre (Nat.lt_of_lt_of_le hi (addN_len o y)), addN_pre hi]
theorem doesCall_iff {f : Func} {k : Int} : doesCall f k = true ↔ k ∈ Zao f.blocks := by
  unfold doesCall Zao
  rw [List.any_eq_true, List.mem_flatMap]
  refine exists_congr fun b => and_congr_right fun _ => ?_
  unfold blkCall insCall endCall Zco Za4
  rw [Bool.or_eq_true, List.any_eq_true, List.mem_append, List.mem_map]
  refine or_congr (exists_congr fun x => ?_) ?_
  · rw [List.mem_filter, and_assoc]
    refine and_congr_right fun _ => ?_
    cases decide (x.op = 11) <;> simp
  · by_cases h : b.fin.kind = 4
    · simp [h, eq_comm]
    · simp [h]
theorem ofL_iff {m : Za1} {n x : Int} (h0 : 0 ≤ n) (hn : n < m.funcs.length) : x ∈ ofL m n ↔ 0 ≤ x ∧ x < m.funcs.length ∧ x ∈ Zao (m.funcs.getD n.toNat default).blocks := by
  unfold ofL ofN
  rw [List.mem_map]
  have hin : inn n m.funcs.length = true := (Zab _ _).2 ⟨h0, hn⟩
  constructor
  · rintro ⟨k, hk, rfl⟩
    rw [List.mem_filter, List.mem_range] at hk
    have h2 := hk.2
    unfold ofK at h2
    rw [hin] at h2
    exact ⟨Int.natCast_nonneg k, Int.ofNat_lt.2 hk.1, doesCall_iff.1 h2⟩
  · rintro ⟨hx0, hx1, hx⟩
    refine ⟨x.toNat, List.mem_filter.2 ⟨List.mem_range.2 (by omega), ?_⟩, by simp; omega⟩
    unfold ofK
    rw [hin]
    have : ((x.toNat : Nat) : Int) = x := by omega
    rw [this]; exact doesCall_iff.2 hx
structure TG (m : Za1) (i : Nat) (o : List Int) : Prop where
  good : GoodL m o
  snd : ∀ x ∈ o, CR m.funcs x.toNat
  fst : ∀ x ∈ ofL m 0, x ∈ o
  cls : ∀ p, p < i → p < o.length → ∀ x ∈ ofL m (o.getD p 0), x ∈ o
theorem TG.step {m : Za1} {i : Nat} {o : List Int} (h : TG m i o) (hi : i < o.length) : TG m (i + 1) (Zce o (ofL m (o.getD i 0))) := by
  have hmem : o.getD i 0 ∈ o := (Zfs 0).2 ⟨i, hi, rfl⟩
  have hr := h.good.rg _ hmem
  refine ⟨addAll_good h.good (fun x hx => ofL_mem hx), fun x hx => ?_, fun x hx => Zfi.2 (.inl (h.fst x hx)), fun p hp hpl x hx => ?_⟩
  · rcases Zfi.1 hx with h1 | h1
    · exact h.snd x h1
    · exact .step (h.snd _ hmem) (by omega) ((ofL_iff hr.1 hr.2).1 h1).2.2
  · by_cases e : p < o.length
    · rw [addAll_pre e] at hx
      by_cases e2 : p = i
      · subst e2; exact Zfi.2 (.inr hx)
      · exact Zfi.2 (.inl (h.cls p (by omega) e x hx))
    · omega
theorem TG.run {m : Za1} : ∀ (f i : Nat) (o : List Int), TG m i o → m.funcs.length < i + f → ∃ i', (toGo m f i o).length ≤ i' ∧ TG m i' (toGo m f i o)
  | 0, i, o, h, hf => by
      have : ¬ i < o.length := by have := h.good.le; omega
      rw [toGo_end this]; exact ⟨i, by omega, h⟩
  | f + 1, i, o, h, hf => by
      by_cases hi : i < o.length
      · rw [toGo_step hi (Nat.succ_pos f)]
        exact TG.run f (i + 1) _ (h.step hi) (by omega)
      · rw [toGo_end hi]; exact ⟨i, by omega, h⟩
theorem toL_spec {m : Za1} (h0 : 0 < m.funcs.length) : ∃ i, (toL m 0).length ≤ i ∧ TG m i (toL m 0) := by
  unfold toL
  refine TG.run _ 0 _ ⟨ofL_good m 0, fun x hx => ?_, fun x hx => hx, fun p hp => absurd hp (Nat.not_lt_zero p)⟩ (by omega)
  exact .step (.zero h0) h0 ((ofL_iff (Int.le_refl 0) (by omega)).1 hx).2.2
open Classical in
theorem stay_used {m : Za1} (hr : Zc0 m = true) : usedL (clrM m).funcs = Zem m := by
  have hl := clrM_len m
  have h1 := (right_bounds hr).1
  apply Zbo false (by rw [usedL_len, stayL_len, hl])
  intro k hk
  rw [usedL_len, hl] at hk
  rw [usedL_at (by rw [hl]; exact hk), stayL_at hk, Bool.eq_iff_iff, decide_eq_true_eq]
  obtain ⟨i, hi, ht⟩ := toL_spec (m := clrM m) (by rw [hl]; omega)
  have hcall : ∀ n, n < m.funcs.length → ∀ y ∈ Zao ((clrM m).funcs.getD n default).blocks, 0 ≤ y ∧ y < m.funcs.length := fun n hn y hy => clr_calls hr hn hy
  have key : (k = 0 ∨ (k : Int) ∈ toM m) ↔ (bif decide ((k : Int) = 0) then true else decide ((k : Int) ∈ toM m)) = true := by
    by_cases e : k = 0
    · subst e; simp
    · have : ¬ (k : Int) = 0 := by omega
      simp [this, e]
  rw [← key]
  constructor
  · intro hc
    clear key hk
    induction hc with
    | zero _ => exact .inl rfl
    | @step n x h2 h3 h4 ih =>
      have hy := hcall n (by rw [hl] at h3; exact h3) x h4
      right
      have e : ((x.toNat : Nat) : Int) = x := by omega
      rw [e]
      rcases ih with rfl | ih
      · exact ht.fst x ((ofL_iff (Int.le_refl 0) (by rw [hl]; omega)).2 ⟨hy.1, by rw [hl]; exact hy.2, h4⟩)
      · obtain ⟨p, hp, e2⟩ := (Zfs 0).1 ih
        refine ht.cls p (Nat.lt_of_lt_of_le hp hi) hp x ?_
        show x ∈ ofL (clrM m) ((toM m).getD p 0)
        rw [e2]
        exact (ofL_iff (Int.natCast_nonneg n) (by omega)).2 ⟨hy.1, by rw [hl]; exact hy.2, by rw [Int.toNat_natCast]; exact h4⟩
  · rintro (rfl | h)
    · exact .zero (by rw [hl]; omega)
    · have := ht.snd _ h
      rw [Int.toNat_natCast] at this
      exact this
open Classical in
theorem stay_calls {m : Za1} (hr : Zc0 m = true) {n : Nat} (hn : n < m.funcs.length) (hs : (Zem m).getD n false = true) {y : Int} (hy : y ∈ Zao ((clrM m).funcs.getD n default).blocks) :
    0 ≤ y ∧ y < (Zem m).length ∧ (Zb7 (Zem m)).getD y.toNat 0 = numB (Zem m) y.toNat := by
  have h1 := clr_calls hr hn hy
  have hl := clrM_len m
  have hsl := stayL_len m
  refine ⟨h1.1, by rw [hsl]; exact h1.2, ?_⟩
  rw [anewL_at (by rw [hsl]; omega), if_pos]
  rw [← stay_used hr] at hs ⊢
  rw [usedL_at (by rw [hl]; exact hn), decide_eq_true_eq] at hs
  rw [usedL_at (by rw [hl]; omega), decide_eq_true_eq]
  exact .step hs (by rw [hl]; exact hn) hy
end Go.Proofs.Ytmanpbgaihdalaa
namespace Go.Proofs.Ytmanpbgaihdalaa
open Go Dv
set_option maxRecDepth 10000
set_option linter.unusedSimpArgs false
end Go.Proofs.Ytmanpbgaihdalaa
namespace Go.Proofs.Ytmanpbgaihdalaa
open Go Dv
set_option maxRecDepth 10000
set_option linter.unusedSimpArgs false
end Go.Proofs.Ytmanpbgaihdalaa
namespace Go.Proofs.Ytmanpbgaihdalaa
open Go Dv
set_option maxRecDepth 10000
set_option linter.unusedSimpArgs false
end Go.Proofs.Ytmanpbgaihdalaa
namespace Go.Proofs.Ytmanpbgaihdalaa
open Go Dv
set_option maxRecDepth 10000
set_option linter.unusedSimpArgs false
end Go.Proofs.Ytmanpbgaihdalaa
namespace Go.Proofs.Ytmanpbgaihdalaa
open Go Dv
set_option maxRecDepth 10000
set_option linter.unusedSimpArgs false
theorem c_Copy0 (fs : List Func) : HF Try.prog 26 [.agg (Zax ⟨fs⟩)] (.agg [.rs (900, 0, 0) 3 0 fs.length]) (Za6 [((900, 0, 0), .row true 3 fs.length (fun j => Zai (fs.getD j default)))]) := by
  refine (c_Copy1 fs).weak (fun j => some j) (fun j j' i _ _ h1 h2 => some_inj j j' i h1 h2) (fun j b e => ?_) (.agg (.cons (.rs (b := .row true 3 fs.length (fun j => Zai (fs.getD j default))) rfl rfl rfl rfl) .nil))
  have hj : j = (900, 0, 0) ∧ b = .row true 3 fs.length (fun j => Zai (fs.getD j default)) := by
    simp only [Za6] at e
    cases e2 : idEq (900, 0, 0) j with
    | false => rw [e2] at e; cases e
    | true => have := Za5.1 e2; subst this; rw [e2] at e; cases e; exact ⟨rfl, rfl⟩
  obtain ⟨rfl, rfl⟩ := hj
  refine HOk.mk rfl (b0 := funR1 fs (mem1 fs)) rfl (GB.row (Nat.le_refl _) (fun j hj => .cons (.imm rfl) (.cons (.imm rfl) (.cons ?_ .nil))) (fun _ _ _ => rfl))
  exact .frz (k := (fs.getD j default).blocks.length) (f := fun q => Zam ((fs.getD j default).blocks.getD q default)) (imm := true) (fun j hj e => by cases e; cases hj) (modH1_at hj) (Nat.le_of_eq (Nat.zero_add _)) rfl (fun x hx => GVs.eqI rfl (by rw [Nat.zero_add])) (fun _ _ => rfl)
end Go.Proofs.Ytmanpbgaihdalaa
namespace Go.Proofs.Ytmanpbgaihdalaa
open Go Dv
set_option maxRecDepth 10000
set_option linter.unusedSimpArgs false
theorem r13_pr (f : Func) : (Zbm f).params = f.params ∧ (Zbm f).regs = f.regs := by
  unfold Zbm; split <;> exact ⟨rfl, rfl⟩
def pA (i j : Nat) : Bool := Nat.blt j i
def rA (i j _q : Nat) : Bool := Nat.blt j i
theorem keepA13 {src : Dv.Id → Option Dv.Id} {h h' : Zaq} {l : List Func} {k : Nat} (h1 : ∀ j, j < k → j < l.length → h (1000, j, 0) = some (blkR j (l.getD j default).blocks (l.getD j default).blocks.length (fun _ => .any)))
    (h2 : ∀ j q, j < k → j < l.length → q < (l.getD j default).blocks.length → h (1001, j, q) = some (insR ((l.getD j default).blocks.getD q default).ins))
    (h3 : ∀ j q, j < k → j < l.length → q < (l.getD j default).blocks.length → h' (1001, j, q) = some (insR ((l.getD j default).blocks.getD q default).ins)) (hs : ∀ a b, src (1000, a, b) = some (1000, a, b) ∧ src (1001, a, b) = some (1001, a, b)) :
    ∀ j b, Zbl l (pA k) (rA k) j = some b → HOk src h h' j b := by
  intro j b e
  rcases Zb4 e with ⟨p, rfl, hp, hk, rfl⟩ | ⟨p, q, rfl, hp, hq, hk, rfl⟩
  · have hk' : p < k := by unfold pA at hk; rw [Nat.blt_eq] at hk; exact hk
    exact HOk.mk (hs p 0).1 (h1 p hk' hp) (Zcq (fun q hq => .cc (Za0 hq) (Za0 hq) (.rs (h3 p q hk' hp hq) (hs p q).2 rfl rfl)))
  · have hk' : p < k := by unfold rA at hk; rw [Nat.blt_eq] at hk; exact hk
    exact HOk.mk (hs p q).2 (h2 p q hk' hp hq) (Zc7 _)
theorem treeA_blk {l : List Func} {k j : Nat} (hj : j < k) (hl : j < l.length) : Zbl l (pA k) (rA k) (1000, j, 0) = some (blkR j (l.getD j default).blocks (l.getD j default).blocks.length (fun _ => .any)) := Zbv hl (by unfold pA; rw [Nat.blt_eq]; exact hj)
theorem treeA_ins {l : List Func} {k j q : Nat} (hj : j < k) (hl : j < l.length) (hq : q < (l.getD j default).blocks.length) : Zbl l (pA k) (rA k) (1001, j, q) = some (insR ((l.getD j default).blocks.getD q default).ins) := Zbq hl hq (by unfold rA; rw [Nat.blt_eq]; exact hj)
noncomputable def deadM (m : Za1) : Za1 := if Zc0 m = true then ref13M m else m
theorem keepG {src : Dv.Id → Option Dv.Id} {h h' : Zaq} {l : List Func} {p : Nat → Bool} {r : Nat → Nat → Bool} (h1 : ∀ j, j < l.length → p j = true → h (1000, j, 0) = some (blkR j (l.getD j default).blocks (l.getD j default).blocks.length (fun _ => .any)))
    (h2 : ∀ j q, j < l.length → q < (l.getD j default).blocks.length → r j q = true → h (1001, j, q) = some (insR ((l.getD j default).blocks.getD q default).ins))
    (h3 : ∀ j q, j < l.length → q < (l.getD j default).blocks.length → p j = true → h' (1001, j, q) = some (insR ((l.getD j default).blocks.getD q default).ins)) (hs : ∀ a b, src (1000, a, b) = some (1000, a, b) ∧ src (1001, a, b) = some (1001, a, b)) :
    ∀ j b, Zbl l p r j = some b → HOk src h h' j b := by
  intro j b e
  rcases Zb4 e with ⟨a, rfl, hp, hk, rfl⟩ | ⟨a, q, rfl, hp, hq, hk, rfl⟩
  · exact HOk.mk (hs a 0).1 (h1 a hp hk) (Zcq (fun q hq => .cc (Za0 hq) (Za0 hq) (.rs (h3 a q hp hq hk) (hs a q).2 rfl rfl)))
  · exact HOk.mk (hs a q).2 (h2 a q hp hq hk) (Zc7 _)
abbrev treeA (l : List Func) : Zaq := Zbl l (fun _ => true) (fun _ _ => true)
theorem keepTA {src : Dv.Id → Option Dv.Id} {h h' : Zaq} {l : List Func} (hh : ∀ a b, h (1000, a, b) = treeA l (1000, a, b) ∧ h (1001, a, b) = treeA l (1001, a, b)) (hh' : ∀ a b, h' (1000, a, b) = treeA l (1000, a, b) ∧ h' (1001, a, b) = treeA l (1001, a, b))
    (hs : ∀ a b, src (1000, a, b) = some (1000, a, b) ∧ src (1001, a, b) = some (1001, a, b)) : ∀ j b, treeA l j = some b → HOk src h h' j b :=
  keepG (fun j hj _ => (hh j 0).1.trans (Zbv hj rfl)) (fun j q hj hq _ => (hh j q).2.trans (Zbq hj hq rfl)) (fun j q hj hq _ => (hh' j q).2.trans (Zbq hj hq rfl)) hs
def rdU (l : List Func) : List Dv.Id := u0 :: ((List.range l.length).map (fun j => (1000, j, 0)) ++ (List.range l.length).flatMap fun i => (List.range (l.getD i default).blocks.length).map fun q => (1001, i, q))
theorem res_modU {h : Zaq} {l : List Func} (h0 : h u0 = some (frow l l.length (fun x => x))) (hh : ∀ a b, h (1000, a, b) = treeA l (1000, a, b) ∧ h (1001, a, b) = treeA l (1001, a, b)) : Res h (rdU l) (.agg [.rs u0 3 0 l.length]) (.agg (Zax ⟨l⟩)) := by
  have m1 : ∀ j, j < l.length → (1000, j, 0) ∈ rdU l := fun j h => by simp [rdU, h]
  have m2 : ∀ j q, j < l.length → q < (l.getD j default).blocks.length → (1001, j, q) ∈ rdU l := fun j q hj hq => by
    unfold rdU
    exact List.mem_cons_of_mem _ (List.mem_append_right _ (List.mem_flatMap.2 ⟨j, List.mem_range.2 hj, List.mem_map.2 ⟨q, List.mem_range.2 hq, rfl⟩⟩))
  refine .agg (.cons (.rsN h0 List.mem_cons_self (Nat.le_of_eq (Nat.zero_add _)) rfl (fun i hi => ?_)) .nil)
  rw [Nat.zero_add]
  refine .cons (.imm rfl) (.cons (.imm rfl) (.cons (.rsN (imm := false) (k := (l.getD i default).blocks.length) (f := fun q => blkO ((l.getD i default).blocks.getD q default) (sel (Nat.blt q (l.getD i default).blocks.length) (.rs (1001, i, q) 7 0 ((l.getD i default).blocks.getD q default).ins.length) .any)) ((hh i 0).1.trans (Zbv hi rfl)) (m1 i hi) (Nat.le_of_eq (Nat.zero_add _)) rfl (fun q hq => ?_)) .nil))
  rw [Nat.zero_add, Za0 hq]
  exact .cons (.imm rfl) (.cons (.imm rfl) (.cons (.imm rfl) (.cons (.imm rfl) (.cons (.imm rfl) (.cons (.rs ((hh i q).2.trans (Zbq hi hq rfl)) (m2 i q hi hq) (Nat.le_of_eq (Nat.zero_add _)) rfl (fun x hx => by rw [Nat.zero_add])) (Ress.imms rfl))))))
theorem lookN {hl : List (Dv.Id × Zap)} {F : Zaq} {i : Dv.Id} (h : (orH (Za6 hl) F i).isSome = true) : i ∈ hl.map (·.1) ∨ (F i).isSome = true := by
  unfold orH at h
  induction hl with
  | nil => exact .inr h
  | cons p r ih =>
    obtain ⟨k, b⟩ := p
    simp only [Za6] at h
    cases e : idEq k i with
    | true => have := Za5.1 e; subst this; exact .inl (by simp)
    | false =>
      rw [e] at h
      rcases ih h with h1 | h1
      · exact .inl (by simp only [List.map_cons, List.mem_cons]; exact .inr h1)
      · exact .inr h1
theorem treeA_fam {l : List Func} {j : Dv.Id} (h : (treeA l j).isSome = true) : j ∈ famIds l := by
  cases e : treeA l j with
  | none => rw [e] at h; cases h
  | some b =>
    unfold famIds
    rcases Zb4 e with ⟨i, rfl, hi, _⟩ | ⟨i, q, rfl, hi, hq, _⟩
    · exact List.mem_cons_of_mem _ (List.mem_cons_of_mem _ (List.mem_append_left _ (List.mem_map.2 ⟨i, List.mem_range.2 hi, rfl⟩)))
    · exact List.mem_cons_of_mem _ (List.mem_cons_of_mem _ (List.mem_append_right _ (List.mem_flatMap.2 ⟨i, List.mem_range.2 hi, List.mem_map.2 ⟨q, List.mem_range.2 hq, rfl⟩⟩)))
theorem keepT8 {src : Dv.Id → Option Dv.Id} {h h' : Zaq} {l : List Func} {x y : AV} {i8 i9 : Bool} (hh : ∀ a b, h (1000, a, b) = Zbw l (1000, a, b) ∧ h (1001, a, b) = Zbw l (1001, a, b)) (hh' : ∀ a b, h' (1000, a, b) = Zbw l (1000, a, b) ∧ h' (1001, a, b) = Zbw l (1001, a, b))
    (hs : ∀ a b, src (1000, a, b) = some (1000, a, b) ∧ src (1001, a, b) = some (1001, a, b)) (h8 : h u8 = some (.row i8 1 1 (fun _ => [x]))) (h9 : h u9 = some (.row i9 1 1 (fun _ => [y]))) (hs8 : src u8 = some u8 := by rfl) (hs9 : src u9 = some u9 := by rfl) : ∀ j b, Zbw l j = some b → HOk src h h' j b := by
  intro j b e
  rcases treeT_some e with ⟨rfl, rfl⟩ | ⟨rfl, rfl⟩ | ⟨p, rfl, hp, rfl⟩ | ⟨p, q, rfl, hp, hq, rfl⟩
  · exact HOk.mk hs8 h8 (GB.one (.cons .any .nil) (fun e => by cases e))
  · exact HOk.mk hs9 h9 (GB.one (.cons .any .nil) (fun e => by cases e))
  · exact HOk.mk (hs p 0).1 ((hh p 0).1.trans (treeT_blk hp)) (Zcq (fun q hq => .cc (Za0 hq) (Za0 hq) (.rs ((hh' p q).2.trans (Ze3 hp hq)) (hs p q).2 rfl rfl)))
  · exact HOk.mk (hs p q).2 ((hh p q).2.trans (Ze3 hp hq)) (Zc7 _)
def rnm (σ : Nat → Nat) (j : Dv.Id) : Option Dv.Id := bif Nat.beq j.1 1000 then some (1000, σ j.2.1, j.2.2) else bif Nat.beq j.1 1001 then some (1001, σ j.2.1, j.2.2) else srcL [((900, 0, 0), some u0), ((1, 0, 0), some u8), ((2, 0, 0), some u9)] j
theorem rnm_inj {σ : Nat → Nat} {n : Nat} (hσ : ∀ a b, a < n → b < n → σ a = σ b → a = b) {j j' i : Dv.Id}
    (h : j = (1, 0, 0) ∨ j = (2, 0, 0) ∨ j = (900, 0, 0) ∨ (∃ a, a < n ∧ j = (1000, a, 0)) ∨ ∃ a q, a < n ∧ j = (1001, a, q)) (h' : j' = (1, 0, 0) ∨ j' = (2, 0, 0) ∨ j' = (900, 0, 0) ∨ (∃ a, a < n ∧ j' = (1000, a, 0)) ∨ ∃ a q, a < n ∧ j' = (1001, a, q))
    (e : rnm σ j = some i) (e' : rnm σ j' = some i) : j = j' := by
  have v1 : rnm σ (1, 0, 0) = some u8 := rfl
  have v2 : rnm σ (2, 0, 0) = some u9 := rfl
  have v3 : rnm σ (900, 0, 0) = some u0 := rfl
  have v4 : ∀ a b, rnm σ (1000, a, b) = some (1000, σ a, b) := fun _ _ => rfl
  have v5 : ∀ a b, rnm σ (1001, a, b) = some (1001, σ a, b) := fun _ _ => rfl
  rcases h with rfl | rfl | rfl | ⟨a, ha, rfl⟩ | ⟨a, q, ha, rfl⟩ <;> rcases h' with rfl | rfl | rfl | ⟨a', ha', rfl⟩ | ⟨a', q', ha', rfl⟩ <;> simp only [v1, v2, v3, v4, v5] at e e' <;> first
    | rfl
    | (rw [← e'] at e; exact absurd (Option.some.inj e) (by intro h; cases h))
    | skip
  · rw [← e'] at e
    have := hσ a a' ha ha' (congrArg (fun x => x.2.1) (Option.some.inj e))
    subst this; rfl
  · rw [← e'] at e
    have h1 := hσ a a' ha ha' (congrArg (fun x => x.2.1) (Option.some.inj e))
    have h2 : q = q' := congrArg (fun x => x.2.2) (Option.some.inj e)
    subst h1; subst h2; rfl
def rowN (S : List Bool) (i k : Nat) (l : List Zbk) (x : Nat → AV) : Zap := .row false 14 l.length (fun q => blkO ((mapB (renC S) l k).getD q default) (sel (Nat.blt q k) (inss (renC S (l.getD q default)).ins) (x q)))
theorem keepRowN {src : Dv.Id → Option Dv.Id} {h h' : Zaq} {S : List Bool} {i k : Nat} {l : List Zbk} {x x' : Nat → AV} (hx : ∀ q, k ≤ q → q < l.length → GV src h h' (x q) (x' q)) : GB src h h' (rowN S i k l x) (rowN S i k l x') :=
  GB.row (Nat.le_refl _) (fun q hq => Zb8 (by
    by_cases e : q < k
    · exact .cc (Za0 e) (Za0 e) (.imm rfl)
    · exact .cc (Zbc (by omega)) (Zbc (by omega)) (hx q (by omega) hq))) (fun e => by cases e)
def insJ (S : List Bool) (l : List Ins) (j q : Nat) : Ins := bif Nat.blt q j then renI S (l.getD q default) else l.getD q default
theorem insJ_lt {S : List Bool} {l : List Ins} {j q : Nat} (h : q < j) : insJ S l j q = renI S (l.getD q default) := by unfold insJ; rw [show Nat.blt q j = true from by rw [Nat.blt_eq]; exact h]; rfl
theorem insJ_ge {S : List Bool} {l : List Ins} {j q : Nat} (h : j ≤ q) : insJ S l j q = l.getD q default := by
  unfold insJ; rw [show Nat.blt q j = false from by rw [Bool.eq_false_iff]; intro e; rw [Nat.blt_eq] at e; omega]; rfl
abbrev rowJ (S : List Bool) (l : List Ins) (j : Nat) : Zap := .row true 7 l.length (fun q => Zbd (insJ S l j q))
theorem keepX {src : Dv.Id → Option Dv.Id} {h h' : Zaq} {k q n i : Nat} {l : List Zbk} {b b2 : Zap} (h902 : h' (902, 0, 0) = some b2) (hs : src (902, 0, 0) = some (902, 0, 0)) (h1 : q ≠ k → h' (1001, i, q) = some b) (hs1 : src (1001, i, q) = some (1001, i, q)) :
    GV src h h' (sel (Nat.beq q k) (.rs (902, 0, 0) 7 0 n) (ownI i l q)) (sel (Nat.beq q k) (.rs (902, 0, 0) 7 0 n) (ownI i l q)) := by
  by_cases e : q = k
  · subst e; exact .cc Zcm Zcm (.rs h902 hs rfl rfl)
  · exact .cc (Zeb e) (Zeb e) (.rs (h1 e) hs1 rfl rfl)
theorem frzJ {src : Dv.Id → Option Dv.Id} {h h' : Zaq} {S : List Bool} {l : List Ins} (hd : ∀ j, (h' j).isSome = true → src j ≠ some (902, 0, 0)) (e : h (902, 0, 0) = some (rowJ S l l.length)) : GV src h h' (.rs (902, 0, 0) 7 0 l.length) (inss (l.map (renI S))) := by
  refine .frz hd e (Nat.le_of_eq (Nat.zero_add _)) (List.length_map _).symm (fun x hx => GVs.eqI rfl ?_) (fun _ _ => rfl)
  rw [Nat.zero_add, insJ_lt hx]
  have : (l.map (renI S)).getD x default = renI S (l.getD x default) := by
    rw [List.getD_eq_getElem?_getD, List.getElem?_map, List.getElem?_eq_getElem hx, Zbh default hx]; rfl
  rw [this]
set_option maxHeartbeats 8000000 in
theorem c_dModule (m : Za1) : FC Try.prog 58 [.agg (Zax m)] (.tup [.agg (Zax (deadM m)), iv (errM m)]) := by
  obtain ⟨fs⟩ := m
  refine Zay tok Try.func58 rfl (by decide +kernel) (Nat.le_of_ble_eq_true rfl) ?_
  refine Zat 0 (fun hl => ?_)
  have hl0 : fs.length ≤ maxL := hl.1.1
  have hmx : maxL = 4294967296 := rfl
  have hl1 : ∀ i, i < fs.length → (fs.getD i default).blocks.length ≤ maxL := fun i hi => (hl.1.2 i hi).2.2.1.1
  have hl2 : ∀ i, i < fs.length → ∀ q, q < (fs.getD i default).blocks.length → ((fs.getD i default).blocks.getD q default).ins.length ≤ maxL := fun i hi q hq => ((hl.1.2 i hi).2.2.1.2 q hq).2.2.2.2.2.1.1
  clear hl
  cases hr : Zc0 ⟨fs⟩ with
  | false =>
    (repeat' first | refine Zad ?_ | (refine Zac tok (by rfl) ?_; conv => whnf))
    refine .inl ⟨_, _, _, uG (QC.fc (c_CopyF ⟨fs⟩) rfl), ?_⟩
    conv => whnf
    (repeat' first | refine Zad ?_ | (refine Zac tok (by rfl) ?_; conv => whnf))
    refine .inl ⟨_, _, _, uG (QC.fc (c_lRight c_lpad ⟨fs⟩) rfl), ?_⟩
    conv => whnf
    (repeat' first | refine Zad ?_ | (refine Zac tok (by rfl) ?_; conv => whnf) | refine Zaf ?_ | (refine Zah ?_; conv => whnf) | (refine Zaj ?_; conv => whnf) | refine Zag rfl (fun hb => ?_) (fun hb => ?_))
    · refine ⟨_, rfl, Rel.tup (.cons (Rel.agg ?_) (.cons (Rel.int (by simp [errM, hr])) .nil))⟩
      rw [show deadM ⟨fs⟩ = ⟨fs⟩ from by simp [deadM, hr]]
      exact Rels.imm rfl
    · rw [hr] at hb; cases hb
  | true =>
  have hgl : (clrM ⟨fs⟩).funcs.length = fs.length := clrM_len ⟨fs⟩
  have hga : ∀ i, i < fs.length → (clrM ⟨fs⟩).funcs.getD i default = Zbm (fs.getD i default) := fun i hi => clrM_at hi
  have hgen : ∃ gs, (clrM ⟨fs⟩).funcs = gs := ⟨_, rfl⟩
  obtain ⟨gs, hgs⟩ := hgen
  rw [hgs] at hgl
  simp only [hgs] at hga
  (repeat' first | refine Zad ?_ | (refine Zac tok (by rfl) ?_; conv => whnf))
  refine .inr ⟨_, _, _, uG (QH.ofF (c_Copy0 fs) rfl (fun i hi => by
    have : i = (900, 0, 0) := by
      simp only [Za6] at hi
      cases e2 : idEq (900, 0, 0) i with
      | false => rw [e2] at hi; cases hi
      | true => exact (Za5.1 e2).symm
    subst this; rfl)), ?_⟩
  conv => whnf
  (repeat' first | refine Zad ?_ | (refine Zac tok (by rfl) ?_; conv => whnf))
  refine .inl ⟨_, _, _, uG (QC.sc (rd := [(900, 0, 0)]) (c_lRight c_lpad ⟨fs⟩) (.cons (.agg (.cons (.row rfl (.head _) rfl rfl (fun _ _ => rfl)) .nil)) .nil) rfl), ?_⟩
  conv => whnf
  (repeat' ((fail_if_success (show AWp _ _ _ (Code.region 4 _ _) _ _)); first | refine Zad ?_ | (refine Zac tok (by rfl) ?_; conv => whnf) | (refine Zah ?_; conv => whnf) | (refine Zaj ?_; conv => whnf) | refine Zag rfl (fun hb => ?_) (fun hb => ?_)))
  · exfalso; rw [hr] at hb; cases hb
  clear hb
  (repeat' ((fail_if_success (show AWp _ _ _ (Code.region 5 _ _) _ _)); first | (refine Zac tok (by rfl) ?_; conv => whnf) | refine Zaf ?_))
  refine Zas (fun i : Nat => mkF [(1, .bp (1, 0, 0) 0), (2, .bp (2, 0, 0) 0), (21, iv fs.length), (22, iv i)] [((1, 0, 0), .row false 1 1 (fun _ => [.rs (900, 0, 0) 3 0 fs.length])), ((2, 0, 0), Zan [.nsl]), ((900, 0, 0), .row false 3 fs.length (fun q => [iv (fs.getD q default).params, iv (fs.getD q default).regs, sel (Nat.blt q i) (mem1 gs q) (Zbn (fs.getD q default).blocks)]))] (Zbl gs (pA i) (rA i))) (fun i => i ≤ fs.length) (fun i => fs.length - i) 0 (Nat.zero_le _) ?_ ?_
  · refine Weak.fam [] rfl (fun i hi => by cases hi) ?_ ?_ (keepA13 (fun j h => absurd h (Nat.not_lt_zero j)) (fun j q h => absurd h (Nat.not_lt_zero j)) (fun j q h => absurd h (Nat.not_lt_zero j)) (fun _ _ => ⟨rfl, rfl⟩)) (fun i hi => by cases hi)
    · exact .cons (.bp rfl rfl) (.cons (.bp rfl rfl) (.cons (.imm rfl) (.cons (.imm rfl) .nil)))
    · refine .old rfl rfl (GB.one (.cons (.rs rfl rfl rfl rfl) .nil) (fun e => by cases e)) (.old rfl rfl (GB.one (GVs.imm rfl) (fun _ => rfl)) (.old rfl rfl (GB.row (Nat.le_refl _) (fun q hq => .cons (.imm rfl) (.cons (.imm rfl) (.cons ?_ .nil))) (fun e => by cases e)) .nil))
      exact .cc rfl (Zbc (Nat.zero_le _)) (.imm rfl)
  intro i hi
  (repeat' ((fail_if_success (show AWp _ _ _ (Code.region 7 _ _) _ _)); (fail_if_success (show AWp _ _ _ (Code.region 9 _ _) _ _)); first | refine Zad ?_ | (refine Zac tok (by rfl) ?_; conv => whnf) | refine Zaf ?_ | (refine Zah ?_; conv => whnf) | (refine Zar ?_; conv => whnf) | refine Zag rfl (fun hb => ?_) (fun hb => ?_)))
  · have hlt : i < fs.length := by simp only [decide_eq_true_eq] at hb; omega
    clear hb
    have hzi : 0 + (i : Int).toNat = i := by simp
    have hrp := r13_pr (fs.getD i default)
    have hgi := hga i hlt
    refine AWp_soft tok mix (by rfl) [0, 1, 2, 3, 4, 5, 6, 7, 9] 20 (by rfl) (by rfl) (by rfl) ?_
    conv => whnf
    repeat' first
      | (refine @And.intro (Zaa _ _ _ _) _ ?_ ?_; rotate_left; (conv => whnf); rotate_right)
      | (guard_target = And _ _; refine @And.intro (gOp _ _ _ _ _ _ _ _ _) _ (by (conv => whnf); exact ⟨rfl, rfl⟩) ?_; conv => whnf)
      | (guard_target = And _ _; refine And.intro ?_ ?_ <;> (conv => whnf))
    all_goals (try ((guard_target = Zaa _ _ _ _); refine Zae ?_; (all_goals (try simp only [Zaa, kzz, kz11, kz12, maxL, Zab] at *)); all_goals omega))
    refine fAV (y := Zbn (fs.getD (0 + (i : Int).toNat) default).blocks) ?_ ?_
    · rw [hzi, Zbc (Nat.le_refl _)]
    conv => whnf
    repeat' first
      | (refine @And.intro (Zaa _ _ _ _) _ ?_ ?_; rotate_left; (conv => whnf); rotate_right)
      | (guard_target = And _ _; refine @And.intro (gOp _ _ _ _ _ _ _ _ _) _ (by (conv => whnf); exact ⟨rfl, rfl⟩) ?_; conv => whnf)
      | (guard_target = And _ _; refine And.intro ?_ ?_ <;> (conv => whnf))
    all_goals (try ((guard_target = Zaa _ _ _ _); refine Zae ?_; (all_goals (try simp only [Zaa, kzz, kz11, kz12, maxL, Zab] at *)); all_goals omega))
    have hcall : HF Try.prog 59 [.agg (Zai (fs.getD (0 + (i : Int).toNat) default))] (.agg [iv (Zbm (fs.getD i default)).params, iv (Zbm (fs.getD i default)).regs, .rs (1000, i, 0) 14 0 (Zbm (fs.getD i default)).blocks.length]) (Zc4 i (Zbm (fs.getD i default))) := by
      rw [hzi]; exact c_dFunc i (fs.getD i default)
    rw [← hgi] at hcall hrp
    refine .inr ⟨_, _, _, uG (QH.ofF hcall rfl (fun j hj => ?_)), ?_⟩
    · have hne : ∀ q, Zbl gs (pA i) (rA i) (1000, i, 0) = none ∧ Zbl gs (pA i) (rA i) (1001, i, q) = none := fun q => by
        constructor
        · cases e : Zbl gs (pA i) (rA i) (1000, i, 0) with
          | none => rfl
          | some b =>
            rcases Zb4 e with ⟨p, e1, _, h2, _⟩ | ⟨p, q, e1, _⟩
            · cases e1; unfold pA at h2; rw [Nat.blt_eq] at h2; omega
            · cases e1
        · cases e : Zbl gs (pA i) (rA i) (1001, i, q) with
          | none => rfl
          | some b =>
            rcases Zb4 e with ⟨p, e1, _⟩ | ⟨p, q, e1, _, _, h2, _⟩
            · cases e1
            · cases e1; unfold rA at h2; rw [Nat.blt_eq] at h2; omega
      cases e : Zc4 i (gs.getD i default) j with
      | none => rw [e] at hj; cases hj
      | some b =>
        rcases Zdt e with ⟨rfl, _⟩ | ⟨q, rfl, _⟩
        · exact (hne 0).1
        · exact (hne q).2
    conv => whnf
    repeat' first
      | (refine @And.intro (Zaa _ _ _ _) _ ?_ ?_; rotate_left; (conv => whnf); rotate_right)
      | (guard_target = And _ _; refine @And.intro (gOp _ _ _ _ _ _ _ _ _) _ (by (conv => whnf); exact ⟨rfl, rfl⟩) ?_; conv => whnf)
      | (guard_target = And _ _; refine And.intro ?_ ?_ <;> (conv => whnf))
    all_goals (try ((guard_target = Zaa _ _ _ _); refine Zae ?_; (all_goals (try simp only [Zaa, kzz, kz11, kz12, maxL, Zab] at *)); all_goals omega))
    all_goals (try rfl)
    (repeat' (refine Zac tok (by rfl) ?_; conv => whnf))
    refine ⟨i + 1, hlt, by omega, ?_⟩
    have ha1 : ∀ (h : Zaq), (∀ a b, h (1000, a, b) = Zbl gs (pA i) (rA i) (1000, a, b) ∧ h (1001, a, b) = Zbl gs (pA i) (rA i) (1001, a, b)) → ∀ j, j < i + 1 → j < gs.length → bigH [] (Zc4 i (gs.getD i default)) h (1000, j, 0) = some (blkR j (gs.getD j default).blocks (gs.getD j default).blocks.length (fun _ => .any)) := fun h hh j hj hjl => by
      by_cases e : j = i
      · subst e; exact bigH_at treeI_blk
      · have : Zc4 i (gs.getD i default) (1000, j, 0) = none := by
          cases e2 : Zc4 i (gs.getD i default) (1000, j, 0) with
          | none => rfl
          | some b => rcases Zdt e2 with ⟨e1, _⟩ | ⟨q, e1, _⟩ <;> cases e1; exact absurd rfl e
        unfold bigH; rw [this, (hh j 0).1, treeA_blk (by omega) hjl]; rfl
    have ha2 : ∀ (h : Zaq), (∀ a b, h (1000, a, b) = Zbl gs (pA i) (rA i) (1000, a, b) ∧ h (1001, a, b) = Zbl gs (pA i) (rA i) (1001, a, b)) → ∀ j q, j < i + 1 → j < gs.length → q < (gs.getD j default).blocks.length → bigH [] (Zc4 i (gs.getD i default)) h (1001, j, q) = some (insR ((gs.getD j default).blocks.getD q default).ins) := fun h hh j q hj hjl hq => by
      by_cases e : j = i
      · subst e; exact bigH_at (treeI_ins hq)
      · have : Zc4 i (gs.getD i default) (1001, j, q) = none := by
          cases e2 : Zc4 i (gs.getD i default) (1001, j, q) with
          | none => rfl
          | some b => rcases Zdt e2 with ⟨e1, _⟩ | ⟨q, e1, _⟩ <;> cases e1; exact absurd rfl e
        unfold bigH; rw [this, (hh j q).2, treeA_ins (by omega) hjl hq]; rfl
    refine Weak.fam [] rfl (fun i hi => by cases hi) ?_ ?_ (keepA13 ?_ ?_ (fun j q h h2 h3 => treeA_ins h h2 h3) (fun _ _ => ⟨rfl, rfl⟩)) (fun i hi => by cases hi)
    · exact .cons (.bp rfl rfl) (.cons (.bp rfl rfl) (.cons (.imm rfl) (.cons (.int (by rw [Zal (by omega) (by omega)]; rfl)) .nil)))
    · refine .old rfl rfl (GB.one (.cons (.rs rfl rfl rfl rfl) .nil) (fun e => by cases e)) (.old rfl rfl (GB.one (GVs.imm rfl) (fun _ => rfl)) (.old rfl rfl (GB.row (Nat.le_refl _) (fun q hq => GVs.upd (fun e => ?_) (fun e => ?_)) (fun e => by cases e)) .nil))
      · have e' : q = i := by rw [e, hzi]
        subst e'
        exact .cons (.int hrp.1) (.cons (.int hrp.2) (.cons (.cc rfl (Za0 (Nat.lt_succ_self _)) (.rs (show Zbl gs (pA (q + 1)) (rA (q + 1)) (1000, q, 0) = _ from treeA_blk (Nat.lt_succ_self _) (by omega)) rfl rfl rfl)) .nil))
      · have e' : q ≠ i := by rw [hzi] at e; exact e
        refine .cons (.imm rfl) (.cons (.imm rfl) (.cons ?_ .nil))
        by_cases h1 : q < i
        · exact .cc (Za0 h1) (Za0 (Nat.lt_succ_of_lt h1)) (.rs (show Zbl gs (pA (i + 1)) (rA (i + 1)) (1000, q, 0) = _ from treeA_blk (Nat.lt_succ_of_lt h1) (by omega)) rfl rfl rfl)
        · exact .cc (Zbc (by omega)) (Zbc (by omega)) (.imm rfl)
    · exact ha1 (orH (Za6 [((1, 0, 0), .row false 1 1 (fun _ => [.rs (900, 0, 0) 3 0 fs.length])), ((2, 0, 0), Zan [.nsl]), ((900, 0, 0), .row false 3 fs.length (fun q => [iv (fs.getD q default).params, iv (fs.getD q default).regs, sel (Nat.blt q i) (mem1 gs q) (Zbn (fs.getD q default).blocks)]))]) (Zbl gs (pA i) (rA i))) (fun _ _ => ⟨rfl, rfl⟩)
    · exact ha2 (orH (Za6 [((1, 0, 0), .row false 1 1 (fun _ => [.rs (900, 0, 0) 3 0 fs.length])), ((2, 0, 0), Zan [.nsl]), ((900, 0, 0), .row false 3 fs.length (fun q => [iv (fs.getD q default).params, iv (fs.getD q default).regs, sel (Nat.blt q i) (mem1 gs q) (Zbn (fs.getD q default).blocks)]))]) (Zbl gs (pA i) (rA i))) (fun _ _ => ⟨rfl, rfl⟩)
  · have hil : i = fs.length := by simp only [decide_eq_false_iff_not] at hb; omega
    clear hb
    subst hil
    have hgp : ∀ q, q < gs.length → (gs.getD q default).params = (fs.getD q default).params ∧ (gs.getD q default).regs = (fs.getD q default).regs := fun q hq => by
      rw [hga q (by omega)]; exact r13_pr _
    refine Zaz (Weak.fam (L := []) (tl := [(1, .bp u8 0), (2, .bp u9 0)]) (hl := [((8, 7, 0), .row false 1 1 (fun _ => [.rs u0 3 0 gs.length])), ((9, 7, 0), Zan [.nsl]), ((0, 7, 0), frow gs gs.length (fun x => x))]) (F := (treeA gs)) [(u8, some (1, 0, 0)), (u9, some (2, 0, 0)), (u0, some (900, 0, 0))] rfl (fun c hc => ?_) ?_ ?_ ?_ (fun i hi => by cases hi)) ?_
    · simp only [tgts, List.mem_cons, List.not_mem_nil, or_false] at hc
      rcases hc with rfl | rfl | rfl <;> exact .inl rfl
    · exact .cons (.bp rfl rfl) (.cons (.bp rfl rfl) .nil)
    · refine .old rfl rfl (GB.one (.cons (.rs rfl rfl rfl hgl.symm) .nil) (fun e => by cases e)) (.old rfl rfl (GB.one (GVs.imm rfl) (fun _ => rfl)) (.old rfl rfl (GB.row (Nat.le_of_eq hgl) (fun q hq => ?_) (fun e => by cases e)) .nil))
      exact .cons (.int (hgp q hq).1.symm) (.cons (.int (hgp q hq).2.symm) (.cons (.cc (Za0 (by omega)) rfl (.rs (Zbv hq rfl) rfl rfl rfl)) .nil))
    · exact keepG (fun j hj _ => treeA_blk (by omega) hj) (fun j q hj hq _ => treeA_ins (by omega) hj hq) (fun j q hj hq _ => show treeA gs (1001, j, q) = _ from Zbq hj hq rfl) (fun _ _ => ⟨rfl, rfl⟩)
    have huse : FO Try.prog 93 [.agg (Zax ⟨gs⟩)] 1 gs.length (fun x => [.bool ((usedL gs).getD x false)]) := by
      rw [← hgs]
      exact c_used _ (by rw [hgs, hgl]; exact (right_bounds hr).1) (fun n hn y hy => by
        have h1 : n < fs.length := by rw [hgs, hgl] at hn; exact hn
        have h2 := clr_calls hr h1 hy
        rw [hgs, hgl]; exact h2) (clr_wt hr)
    (repeat' (refine Zac tok (by rfl) ?_; conv => whnf))
    refine .inl ⟨_, _, _, uG (QC.fo (rd := rdU gs) huse (.cons (res_modU rfl (fun _ _ => ⟨rfl, rfl⟩)) .nil) (.inr (fun _ _ => rfl)) rfl), ?_⟩
    conv => whnf
    have hS : usedL gs = Zem ⟨fs⟩ := by rw [← hgs]; exact stay_used hr
    have hSl : (Zem ⟨fs⟩).length = fs.length := stayL_len ⟨fs⟩
    have hsc : ∀ n, n < fs.length → (Zem ⟨fs⟩).getD n false = true → ∀ y ∈ Zao (gs.getD n default).blocks, 0 ≤ y ∧ y < (Zem ⟨fs⟩).length ∧ (Zb7 (Zem ⟨fs⟩)).getD y.toNat 0 = numB (Zem ⟨fs⟩) y.toNat := fun n hn h y hy => by
      rw [← hgs] at hy; exact stay_calls hr hn h hy
    have hM : ref13M ⟨fs⟩ = ⟨(Za7 (Zem ⟨fs⟩) fs.length).map fun n => renF (Zem ⟨fs⟩) (gs.getD n default)⟩ := by
      unfold ref13M; rw [hgs]
    have hgen : ∃ S, Zem ⟨fs⟩ = S := ⟨_, rfl⟩
    obtain ⟨S, hSe⟩ := hgen
    rw [hSe] at hS hSl hM
    simp only [hSe] at hsc
    (repeat' ((fail_if_success (show AWp _ _ _ (Code.region 10 _ _) _ _)); refine Zad ?_))
    refine Zaz (Weak.fam (L := []) (tl := [(1, .bp u8 0), (2, .bp u9 0), (5, .bp u2 0)]) (hl := [((8, 7, 0), .row false 1 1 (fun _ => [.rs u0 3 0 gs.length])), ((9, 7, 0), Zan [.nsl]), ((0, 7, 0), frow gs gs.length (fun x => x)), ((2, 7, 0), sbox S)]) (F := (treeA gs)) [(u2, some (5, 0, 0))] rfl (fun c hc => ?_) ?_ ?_ ?_ (fun i hi => by cases hi)) ?_
    · simp only [tgts, List.mem_singleton] at hc
      subst hc; exact .inl rfl
    · exact .cons (.bp rfl rfl) (.cons (.bp rfl rfl) (.cons (.bp rfl rfl) .nil))
    · refine .old rfl rfl (GB.one (.cons (.rs rfl rfl rfl rfl) .nil) (fun e => by cases e)) (.old rfl rfl (GB.one (GVs.imm rfl) (fun _ => rfl)) (.old rfl rfl (GB.row (Nat.le_refl _) (fun q hq => Zbj hq ?_ rfl) (fun e => by cases e)) (.old rfl rfl (GB.one (.cons ?_ .nil) (fun _ => rfl)) .nil)))
      · exact (show treeA gs (1000, q, 0) = Zbw gs (1000, q, 0) from rfl)
      · exact .frz (hd_of rfl (treeG_hd (fun a b => ⟨(fun e => by cases e), fun e => by cases e⟩))) rfl (Nat.le_of_eq (Nat.zero_add _)) (hgl.trans hSl.symm) (fun x hx => GVs.eqI rfl (by rw [Nat.zero_add, hS])) (fun _ _ => rfl)
    · exact keepTA (fun _ _ => ⟨rfl, rfl⟩) (fun _ _ => ⟨rfl, rfl⟩) (fun _ _ => ⟨rfl, rfl⟩)
    (repeat' (refine Zac tok (by rfl) ?_; conv => whnf))
    refine .inl ⟨_, _, _, uG (QC.fc (c_anew S) rfl), ?_⟩
    conv => whnf
    (repeat' ((fail_if_success (show AWp _ _ _ (Code.region 12 _ _) _ _)); first | refine Zad ?_ | (refine Zac tok (by rfl) ?_; conv => whnf)))
    refine Zaz (Weak.fam (L := []) (tl := [(1, .bp u8 0), (2, .bp u9 0), (5, .bp u2 0), (6, ints (Zb7 S)), (7, .bp u1 0)]) (hl := [((8, 7, 0), .row false 1 1 (fun _ => [.rs u0 3 0 gs.length])), ((9, 7, 0), Zan [.nsl]), ((0, 7, 0), frow gs gs.length (fun x => x)), ((1, 7, 0), nbox (-1)), ((2, 7, 0), sbox S)]) (F := (treeA gs)) [(u1, some (7, 0, 0))] rfl (fun c hc => ?_) ?_ ?_ ?_ (fun i hi => by cases hi)) ?_
    · simp only [tgts, List.mem_singleton] at hc
      subst hc; exact .inl rfl
    · exact .cons (.bp rfl rfl) (.cons (.bp rfl rfl) (.cons (.bp rfl rfl) (.cons (.imm rfl) (.cons (.bp rfl rfl) .nil))))
    · exact .old rfl rfl (GB.one (.cons (.rs rfl rfl rfl rfl) .nil) (fun e => by cases e)) (.old rfl rfl (GB.one (GVs.imm rfl) (fun _ => rfl)) (.old rfl rfl (GB.row (Nat.le_refl _) (fun q hq => Zbj hq (show treeA gs (1000, q, 0) = Zbw gs (1000, q, 0) from rfl) rfl) (fun e => by cases e)) (.old rfl rfl (GB.one (GVs.imm rfl) (fun _ => rfl)) (.old rfl rfl (GB.one (GVs.imm rfl) (fun _ => rfl)) .nil))))
    · exact keepTA (fun _ _ => ⟨rfl, rfl⟩) (fun _ _ => ⟨rfl, rfl⟩) (fun _ _ => ⟨rfl, rfl⟩)
    have hdel := c_DelF gs S (hSl.trans hgl.symm) (by omega)
    (repeat' (refine Zac tok (by rfl) ?_; conv => whnf))
    refine .inr ⟨_, _, _, uG (QH.ofG (dead := []) hdel (srcL []) (srcL_inj rfl (fun i hi => by cases hi)) ?_ ?_ ?_), ?_⟩
    · refine HLs_or ?_ (keepT8 (x := .rs u0 3 0 gs.length) (y := .nsl) (fun _ _ => ⟨rfl, rfl⟩) (fun _ _ => ⟨rfl, rfl⟩) (fun _ _ => ⟨rfl, rfl⟩) rfl rfl)
      exact .old rfl rfl (GB.row (Nat.le_refl _) (fun q hq => Zbj hq rfl rfl) (fun e => by cases e)) (.old rfl rfl (GB.one (GVs.imm rfl) (fun _ => rfl)) (.old rfl rfl (GB.one (GVs.imm rfl) (fun _ => rfl)) .nil))
    · exact .cons (.rs rfl rfl rfl rfl) (.cons (.fn (.cons (.bp rfl rfl) (.cons (.bp rfl rfl) .nil))) .nil)
    · intro j hj
      have hm : j ∈ LL gs := by
        rcases lookN hj with h | h
        · simp only [List.map_cons, List.map_nil, List.mem_cons, List.not_mem_nil, or_false] at h
          unfold LL famIds
          rcases h with rfl | rfl | rfl | rfl | rfl <;> simp
        · unfold LL
          exact List.mem_cons_of_mem _ (List.mem_cons_of_mem _ (List.mem_cons_of_mem _ (treeA_fam h)))
      have hp := LM_pin (LL_LM hm)
      exact .inr ⟨hm, hp, rfl, (LL_ok j hm hp).1, (LL_ok j hm hp).1⟩
    conv => whnf
    (repeat' first | refine Zad ?_ | (refine Zac tok (by rfl) ?_; conv => whnf))
    refine Zaf ?_
    rw [hgl]
    have hkl := keptN_le S fs.length
    have hgen : ∃ K, Za7 S fs.length = K := ⟨_, rfl⟩
    obtain ⟨K, hK⟩ := hgen
    have hKlt : ∀ x, x < K.length → K.getD x 0 < fs.length := fun x hx => by rw [← hK] at hx ⊢; exact Zd1 hx
    have hKin : ∀ a b, a < K.length → b < K.length → K.getD a 0 = K.getD b 0 → a = b := fun a b ha hb e => by rw [← hK] at ha hb e; exact keptN_inj ha hb e
    have hKs : ∀ x, x < K.length → S.getD (K.getD x 0) false = true := fun x hx => by
      have := (Zfs 0).2 ⟨x, hx, rfl⟩
      rw [← hK] at this
      unfold Za7 at this
      rw [← hK]
      exact (List.mem_filter.1 this).2
    rw [hK] at hkl hM
    have hgen : ∃ ls, K.map (fun n => gs.getD n default) = ls := ⟨_, rfl⟩
    obtain ⟨ls, hls⟩ := hgen
    have hlsl : ls.length = K.length := by rw [← hls, List.length_map]
    have hlsa : ∀ x, x < K.length → ls.getD x default = gs.getD (K.getD x 0) default := fun x hx => by
      rw [← hls, List.getD_eq_getElem?_getD, List.getElem?_map, List.getElem?_eq_getElem hx, Zbh 0 hx]; rfl
    refine Zas (fun i : Nat => mkF [(1, .bp (1, 0, 0) 0), (2, .bp (2, 0, 0) 0), (6, ints (Zb7 S)), (46, .rs (900, 0, 0) 3 0 ls.length), (47, iv ls.length), (48, iv i)] [((1, 0, 0), .row false 1 1 (fun _ => [.rs (900, 0, 0) 3 0 ls.length])), ((2, 0, 0), anyB), ((900, 0, 0), funR1 ls (fun j => sel (Nat.blt j i) (Zbn (mapB (renC S) (ls.getD j default).blocks (ls.getD j default).blocks.length)) (mem1 ls j)))] (Zbl ls (pO i) (rO i))) (fun i => i ≤ ls.length) (fun i => ls.length - i) 0 (Nat.zero_le _) ?_ ?_
    · refine Weak.gen (τ := mkF [(1, .bp (1, 0, 0) 0), (2, .bp (2, 0, 0) 0), (6, ints (Zb7 S)), (46, .rs (900, 0, 0) 3 0 ls.length), (47, iv ls.length), (48, iv 0)] [((1, 0, 0), .row false 1 1 (fun _ => [.rs (900, 0, 0) 3 0 ls.length])), ((2, 0, 0), anyB), ((900, 0, 0), funR1 ls (fun j => sel (Nat.blt j 0) (Zbn (mapB (renC S) (ls.getD j default).blocks (ls.getD j default).blocks.length)) (mem1 ls j)))] (Zbl ls (pO 0) (rO 0))) (rnm (fun x => K.getD x 0)) ?_ ?_ ?_ (fun i hi => by cases hi)
      · have hdom : ∀ j, (orH (Za6 [((1, 0, 0), .row false 1 1 (fun _ => [.rs (900, 0, 0) 3 0 ls.length])), ((2, 0, 0), anyB), ((900, 0, 0), funR1 ls (fun j => sel (Nat.blt j 0) (Zbn (mapB (renC S) (ls.getD j default).blocks (ls.getD j default).blocks.length)) (mem1 ls j)))]) (Zbl ls (pO 0) (rO 0)) j).isSome = true → j = (1, 0, 0) ∨ j = (2, 0, 0) ∨ j = (900, 0, 0) ∨ (∃ a, a < K.length ∧ j = (1000, a, 0)) ∨ ∃ a q, a < K.length ∧ j = (1001, a, q) := fun j h => by
          rcases lookN h with h | h
          · simp only [List.map_cons, List.map_nil, List.mem_cons, List.not_mem_nil, or_false] at h
            rcases h with h | h | h
            · exact .inl h
            · exact .inr (.inl h)
            · exact .inr (.inr (.inl h))
          · cases e : Zbl ls (pO 0) (rO 0) j with
            | none => rw [e] at h; cases h
            | some b =>
              rcases Zb4 e with ⟨a, rfl, ha, _⟩ | ⟨a, q, rfl, ha, _⟩
              · exact .inr (.inr (.inr (.inl ⟨a, by omega, rfl⟩)))
              · exact .inr (.inr (.inr (.inr ⟨a, q, by omega, rfl⟩)))
        intro j j' i e1 e2 e3 e4
        exact rnm_inj hKin (hdom j e1) (hdom j' e2) e3 e4
      · intro j b e
        have hKe : (Za7 S fs.length).length = ls.length := by rw [hK, hlsl]
        refine HLs_or (hl := [((1, 0, 0), .row false 1 1 (fun _ => [.rs (900, 0, 0) 3 0 ls.length])), ((2, 0, 0), anyB), ((900, 0, 0), funR1 ls (fun j => sel (Nat.blt j 0) (Zbn (mapB (renC S) (ls.getD j default).blocks (ls.getD j default).blocks.length)) (mem1 ls j)))]) (F := Zbl ls (pO 0) (rO 0)) ?_ ?_ j b e
        · refine .old rfl rfl (GB.one (.cons (.rs rfl rfl rfl hKe) .nil) (fun e => by cases e)) (.old rfl rfl (GB.one (.cons .any .nil) (fun e => by cases e)) (.old rfl rfl (GB.row (Nat.le_of_eq hKe.symm) (fun q hq => ?_) (fun e => by cases e)) .nil))
          have hq' : q < K.length := by omega
          show GVs _ _ _ (Zfw gs ((Za7 S fs.length).getD q 0)) _
          rw [hK]
          refine .cons (.int (by rw [hlsa q hq'])) (.cons (.int (by rw [hlsa q hq'])) (.cons (.cc rfl (Zbc (Nat.zero_le _)) (.rs (show Zbl ls (pO 0) (rO 0) (1000, q, 0) = _ from Zbv hq rfl) rfl rfl (by rw [hlsa q hq']))) .nil))
        · intro j b e
          rcases Zb4 e with ⟨a, rfl, ha, _, rfl⟩ | ⟨a, q, rfl, ha, hq, _, rfl⟩
          · have ha' : a < K.length := by omega
            refine HOk.mk (i := (1000, K.getD a 0, 0)) (b0 := blkR (K.getD a 0) (gs.getD (K.getD a 0) default).blocks (gs.getD (K.getD a 0) default).blocks.length (fun _ => .any)) rfl ?_ ?_
            · refine Eq.trans ?_ (treeT_blk (l := gs) (by rw [hgl]; exact hKlt a ha'))
              exact Zcd (u := orH (Za6 [(u0, frow gs (Za7 S fs.length).length (fun x => (Za7 S fs.length).getD x 0)), (u1, nbox ((fs.length : Int) - 1)), (u2, sbox S)]) (Zbw gs)) (h := orH (Za6 [((8, 7, 0), .row false 1 1 (fun _ => [.rs u0 3 0 gs.length])), ((9, 7, 0), Zan [.nsl]), ((0, 7, 0), frow gs gs.length (fun x => x)), ((1, 7, 0), nbox (-1)), ((2, 7, 0), sbox S)]) (treeA gs)) rfl
            · rw [hlsa a ha']
              refine GB.row (Nat.le_refl _) (fun q hq => ?_) (fun e => by cases e)
              exact Zb8 (.cc (Za0 hq) (Za0 hq) (.rs (show Zbl ls (pO 0) (rO 0) (1001, a, q) = _ from Zbq ha (by rw [hlsa a ha']; exact hq) rfl) rfl rfl rfl))
          · have ha' : a < K.length := by omega
            rw [hlsa a ha'] at hq ⊢
            refine HOk.mk (i := (1001, K.getD a 0, q)) (b0 := insR ((gs.getD (K.getD a 0) default).blocks.getD q default).ins) rfl ?_ (Zc7 _)
            refine Eq.trans ?_ (Ze3 (l := gs) (by rw [hgl]; exact hKlt a ha') hq)
            exact Zcd (u := orH (Za6 [(u0, frow gs (Za7 S fs.length).length (fun x => (Za7 S fs.length).getD x 0)), (u1, nbox ((fs.length : Int) - 1)), (u2, sbox S)]) (Zbw gs)) (h := orH (Za6 [((8, 7, 0), .row false 1 1 (fun _ => [.rs u0 3 0 gs.length])), ((9, 7, 0), Zan [.nsl]), ((0, 7, 0), frow gs gs.length (fun x => x)), ((1, 7, 0), nbox (-1)), ((2, 7, 0), sbox S)]) (treeA gs)) rfl
      · intro t
        refine TLg.spec (l := [(1, .bp (1, 0, 0) 0), (2, .bp (2, 0, 0) 0), (6, ints (Zb7 S)), (46, .rs (900, 0, 0) 3 0 ls.length), (47, iv ls.length), (48, iv 0)]) t ?_
        have hKe : (Za7 S fs.length).length = ls.length := by rw [hK, hlsl]
        exact .cons (.bp rfl rfl) (.cons (.bp rfl rfl) (.cons (.imm rfl) (.cons (.rs rfl rfl rfl hKe) (.cons (.int (by rw [← hKe])) (.cons (.imm rfl) .nil)))))
    have hcl : ∀ i, i < ls.length → ∀ y ∈ Zao (ls.getD i default).blocks, 0 ≤ y ∧ y < S.length ∧ (Zb7 S).getD y.toNat 0 = numB S y.toNat := fun i hi y hy => by
      rw [hlsa i (by omega)] at hy
      exact hsc _ (hKlt i (by omega)) (hKs i (by omega)) y hy
    have hlb : ∀ i, i < ls.length → (ls.getD i default).blocks.length ≤ maxL ∧ ∀ q, q < (ls.getD i default).blocks.length → ((ls.getD i default).blocks.getD q default).ins.length ≤ maxL := fun i hi => by
      have hK' := hKlt i (by omega)
      rw [hlsa i (by omega), hga _ hK']
      refine ⟨Nat.le_trans (r13_le _) (hl1 _ hK'), fun q hq => ?_⟩
      obtain ⟨n, hn, e1, _⟩ := ref13_from hq
      rw [e1]; exact hl2 _ hK' n hn
    have hlm : ls.length ≤ maxL := by omega
    have hM2 : ref13M ⟨fs⟩ = ⟨ls.map (renF S)⟩ := by rw [hM, ← hls, List.map_map]; rfl
    clear hM hsc hdel hga hl1 hl2
    have hal := anewL_len S
    intro i hi
    (repeat' ((fail_if_success (show AWp _ _ _ (Code.region 15 _ _) _ _)); (fail_if_success (show AWp _ _ _ (Code.region 30 _ _) _ _)); first | refine Zad ?_ | (refine Zac tok (by rfl) ?_; conv => whnf) | refine Zaf ?_ | (refine Zah ?_; conv => whnf) | (refine Zar ?_; conv => whnf) | refine Zag rfl (fun hb => ?_) (fun hb => ?_)))
    · have hlt : i < ls.length := by simp only [decide_eq_true_eq] at hb; omega
      clear hb
      have hz : 0 + (i : Int).toNat = i := by simp
      have hgen : ∃ l, (ls.getD i default).blocks = l := ⟨_, rfl⟩
      obtain ⟨l, hlbe⟩ := hgen
      obtain ⟨hll, hli⟩ := hlb i hlt
      have hcy := hcl i hlt
      rw [hlbe] at hll hli hcy
      ((repeat' ((fail_if_success (show AWp _ _ _ (Code.region 16 _ _) _ _)); first | (refine Zac tok (by rfl) ?_; conv => whnf) | (refine @And.intro (Zaa _ _ _ _) _ ?_ ?_; rotate_left; (conv => whnf); rotate_right))); all_goals (try ((guard_target = Zaa _ _ _ _); refine Zae ?_; (all_goals (try simp only [Zaa, kzz, kz11, kz12, maxL, Zab] at *)); all_goals omega)))
      refine fAV (y := .rs (1000, i, 0) 14 0 l.length) ?_ ?_
      · show sel (Nat.blt (0 + (i : Int).toNat) i) _ (mem1 ls (0 + (i : Int).toNat)) = _
        rw [hz, Zbc (Nat.le_refl _)]; unfold mem1; rw [hlbe]
      conv => whnf
      (repeat' ((fail_if_success (show AWp _ _ _ (Code.region 16 _ _) _ _)); refine Zad ?_))
      refine Zaz (Weak.fam (L := []) (tl := [(1, .bp (1, 0, 0) 0), (2, .bp (2, 0, 0) 0), (6, ints (Zb7 S)), (9, .bp (9, 0, 0) 0), (46, .rs (900, 0, 0) 3 0 ls.length), (47, iv ls.length), (48, iv i)]) (hl := [((1, 0, 0), .row false 1 1 (fun _ => [.rs (900, 0, 0) 3 0 ls.length])), ((2, 0, 0), anyB), ((900, 0, 0), funR1 ls (fun j => sel (Nat.blt j i) (Zbn (mapB (renC S) (ls.getD j default).blocks (ls.getD j default).blocks.length)) (sel (Nat.beq j i) (.rs (901, 0, 0) 14 0 l.length) (mem1 ls j)))), ((9, 0, 0), .row false 3 1 (fun _ => [iv (ls.getD i default).params, iv (ls.getD i default).regs, .rs (901, 0, 0) 14 0 l.length])), ((901, 0, 0), rowN S i 0 l (ownI i l))]) (F := (Zbl ls (pI i) (rI i 0))) [((901, 0, 0), some (1000, i, 0))] rfl (fun c hc => ?_) ?_ ?_ ?_ (fun i hi => by cases hi)) ?_
      · simp only [tgts, List.mem_singleton] at hc; subst hc
        left
        show Zbl ls (pI i) (rI i 0) (1000, i, 0) = none
        cases e : Zbl ls (pI i) (rI i 0) (1000, i, 0) with
        | none => rfl
        | some b =>
          rcases Zb4 e with ⟨p, e1, _, e2, _⟩ | ⟨p, q, e1, _⟩
          · cases e1; unfold pI at e2; rw [Nat.blt_eq] at e2; omega
          · cases e1
      · exact .cons (.bp rfl rfl) (.cons (.bp rfl rfl) (.cons (.imm rfl) (.cons (.bp rfl rfl) (.cons (.rs rfl rfl rfl rfl) (.cons (.imm rfl) (.cons (.imm rfl) .nil))))))
      · refine .old rfl rfl (GB.one (.cons (.rs rfl rfl rfl rfl) .nil) (fun e => by cases e)) (.old rfl rfl (GB.one (.cons .any .nil) (fun e => by cases e)) (.old rfl rfl (GB.row (Nat.le_refl _) (fun q hq => .cons (.imm rfl) (.cons (.imm rfl) (.cons ?_ .nil))) (fun e => by cases e)) (.old rfl rfl (GB.one (.cons (.int (by rw [hz])) (.cons (.int (by rw [hz])) (.cons (.rs rfl Zeu rfl rfl) .nil))) (fun e => by cases e)) (.old (b0 := blkR i (ls.getD i default).blocks (ls.getD i default).blocks.length (fun _ => .any)) rfl ?_ ?_ .nil))))
        · by_cases h1 : q < i
          · exact .cc (Za0 h1) (Za0 h1) (.imm rfl)
          · by_cases h2 : q = i
            · subst h2
              exact .cc (Zbc (Nat.le_refl _)) ((Zbc (Nat.le_refl _)).trans Zcm) (.rs rfl Zeu rfl (by rw [hlbe]))
            · refine .cc (Zbc (Nat.le_of_not_lt h1)) ((Zbc (Nat.le_of_not_lt h1)).trans (Zeb h2)) (.rs (show Zbl ls (pI i) (rI i 0) (1000, q, 0) = _ from Zbv hq (by unfold pI; rw [Nat.blt_eq]; omega)) (Zb2 (fun h => h2 (by cases h))) rfl rfl)
        · show Zbl ls (pO i) (rO i) (1000, i, 0) = _
          exact Zbv hlt (by unfold pO; rw [Nat.ble_eq]; omega)
        · rw [hlbe]
          refine GB.row (Nat.le_refl _) (fun q hq => ?_) (fun e => by cases e)
          rw [mapB_at hq, if_neg (Nat.not_lt_zero q)]
          refine Zb8 (.cc (Za0 hq) (Zbc (Nat.zero_le _)) (.rs (b := insR (l.getD q default).ins) ?_ (Zb2 (fun h => by cases h)) rfl rfl))
          show Zbl ls (pI i) (rI i 0) (1001, i, q) = _
          rw [Zbq hlt (by rw [hlbe]; exact hq) (Zeq.2 (.inr ⟨rfl, Nat.zero_le _⟩)), hlbe]
      · intro j b e
        rcases Zb4 e with ⟨p, rfl, hp, h2, rfl⟩ | ⟨p, q, rfl, hp, hq, h2, rfl⟩
        · have h2' : i < p := by unfold pI at h2; rw [Nat.blt_eq] at h2; exact h2
          exact HOk.mk (Zb2 (fun h => by cases h)) (show Zbl ls (pO i) (rO i) (1000, p, 0) = _ from Zbv hp (by unfold pO; rw [Nat.ble_eq]; omega)) (Zcq (fun q hq => .cc (Za0 hq) (Za0 hq) (.rs (show Zbl ls (pI i) (rI i 0) (1001, p, q) = _ from Zbq hp hq (Zeq.2 (.inl h2'))) (Zb2 (fun h => by cases h)) rfl rfl)))
        · have h2' := Zeq.1 h2
          exact HOk.mk (Zb2 (fun h => by cases h)) (show Zbl ls (pO i) (rO i) (1001, p, q) = _ from Zbq hp hq (by unfold rO; rw [Nat.ble_eq]; omega)) (Zc7 _)
      (repeat' (refine Zac tok (by rfl) ?_; conv => whnf))
      refine Zaf ?_
      refine Zas (fun k : Nat => mkF [(1, .bp (1, 0, 0) 0), (2, .bp (2, 0, 0) 0), (6, ints (Zb7 S)), (9, .bp (9, 0, 0) 0), (46, .rs (900, 0, 0) 3 0 ls.length), (47, iv ls.length), (48, iv i), (53, .rs (901, 0, 0) 14 0 l.length), (54, iv l.length), (55, iv k)] [((1, 0, 0), .row false 1 1 (fun _ => [.rs (900, 0, 0) 3 0 ls.length])), ((2, 0, 0), anyB), ((900, 0, 0), funR1 ls (fun j => sel (Nat.blt j i) (Zbn (mapB (renC S) (ls.getD j default).blocks (ls.getD j default).blocks.length)) (sel (Nat.beq j i) (.rs (901, 0, 0) 14 0 l.length) (mem1 ls j)))), ((9, 0, 0), .row false 3 1 (fun _ => [iv (ls.getD i default).params, iv (ls.getD i default).regs, .rs (901, 0, 0) 14 0 l.length])), ((901, 0, 0), rowN S i k l (ownI i l))] (Zbl ls (pI i) (rI i k))) (fun k => k ≤ l.length) (fun k => l.length - k) 0 (Nat.zero_le _) ?_ ?_
      · refine Weak.fam [] rfl (fun i hi => by cases hi) ?_ ?_ (keepF (Nat.le_refl _) (fun _ _ => ⟨rfl, rfl⟩) (fun _ _ => ⟨rfl, rfl⟩) (fun _ _ => ⟨rfl, rfl⟩)) (fun i hi => by cases hi)
        · exact .cons (.bp rfl rfl) (.cons (.bp rfl rfl) (.cons (.imm rfl) (.cons (.bp rfl rfl) (.cons (.rs rfl rfl rfl rfl) (.cons (.imm rfl) (.cons (.imm rfl) (.cons (.rs rfl rfl rfl rfl) (.cons (.imm rfl) (.cons (.imm rfl) .nil)))))))))
        · refine .old rfl rfl (GB.one (.cons (.rs rfl rfl rfl rfl) .nil) (fun e => by cases e)) (.old rfl rfl (GB.one (.cons .any .nil) (fun e => by cases e)) (.old rfl rfl (GB_fun1 (fun q hq => keepA rfl (fun h => show Zbl ls (pI i) (rI i 0) (1000, q, 0) = _ from Zbv hq (by unfold pI; rw [Nat.blt_eq]; exact h)) rfl rfl rfl)) (.old rfl rfl (GB.one (.cons (.imm rfl) (.cons (.imm rfl) (.cons (.rs rfl rfl rfl rfl) .nil))) (fun e => by cases e)) (.old rfl rfl (keepRowN (fun q h1 hq => ?_)) .nil))))
          exact .rs (b := insR (l.getD q default).ins) (show Zbl ls (pI i) (rI i 0) (1001, i, q) = _ from by rw [Zbq hlt (by rw [hlbe]; exact hq) (Zeq.2 (.inr ⟨rfl, h1⟩)), hlbe]) rfl rfl rfl
      intro k hk
      (repeat' ((fail_if_success (show AWp _ _ _ (Code.region 18 _ _) _ _)); (fail_if_success (show AWp _ _ _ (Code.region 29 _ _) _ _)); first | refine Zad ?_ | (refine Zac tok (by rfl) ?_; conv => whnf) | refine Zaf ?_ | (refine Zah ?_; conv => whnf) | (refine Zar ?_; conv => whnf) | refine Zag rfl (fun hb => ?_) (fun hb => ?_)))
      · have hkl : k < l.length := by simp only [decide_eq_true_eq] at hb; omega
        clear hb
        have hzk : 0 + (k : Int).toNat = k := by simp
        have hgen : ∃ b, l.getD k default = b := ⟨_, rfl⟩
        obtain ⟨b, hbk⟩ := hgen
        have hbi := hli k hkl
        have hmk : (mapB (renC S) l k).getD k default = b := by rw [mapB_at hkl, if_neg (Nat.lt_irrefl k), hbk]
        have hcb : ∀ y ∈ Zco b, 0 ≤ y ∧ y < S.length ∧ (Zb7 S).getD y.toNat 0 = numB S y.toNat := fun y hy => hcy y (funCalls_mem.2 ⟨k, hkl, by rw [hbk]; exact hy⟩)
        rw [hbk] at hbi
        ((repeat' ((fail_if_success (show AWp _ _ _ (Code.region 20 _ _) _ _)); first | refine Zad ?_ | (refine Zac tok (by rfl) ?_; conv => whnf) | (refine @And.intro (Zaa _ _ _ _) _ ?_ ?_; rotate_left; (conv => whnf); rotate_right))); all_goals (try ((guard_target = Zaa _ _ _ _); refine Zae ?_; (all_goals (try simp only [Zaa, kzz, kz11, kz12, maxL, Zab] at *)); all_goals omega)))
        refine Zaz (Weak.fam (L := []) (tl := [(1, .bp (1, 0, 0) 0), (2, .bp (2, 0, 0) 0), (6, ints (Zb7 S)), (9, .bp (9, 0, 0) 0), (10, iv k), (11, .rp (901, 0, 0) 14 k 0), (46, .rs (900, 0, 0) 3 0 ls.length), (47, iv ls.length), (48, iv i), (53, .rs (901, 0, 0) 14 0 l.length), (54, iv l.length), (55, iv k)]) (hl := [((1, 0, 0), .row false 1 1 (fun _ => [.rs (900, 0, 0) 3 0 ls.length])), ((2, 0, 0), anyB), ((900, 0, 0), funR1 ls (fun j => sel (Nat.blt j i) (Zbn (mapB (renC S) (ls.getD j default).blocks (ls.getD j default).blocks.length)) (sel (Nat.beq j i) (.rs (901, 0, 0) 14 0 l.length) (mem1 ls j)))), ((9, 0, 0), .row false 3 1 (fun _ => [iv (ls.getD i default).params, iv (ls.getD i default).regs, .rs (901, 0, 0) 14 0 l.length])), ((901, 0, 0), rowN S i k l (fun q => sel (Nat.beq q k) (.rs (902, 0, 0) 7 0 b.ins.length) (ownI i l q))), ((902, 0, 0), rowJ S b.ins 0)]) (F := (Zbl ls (pI i) (rI i (k + 1)))) [((902, 0, 0), some (1001, i, k))] rfl (fun c hc => ?_) ?_ ?_ ?_ (fun i hi => by cases hi)) ?_
        · simp only [tgts, List.mem_singleton] at hc; subst hc
          left
          show Zbl ls (pI i) (rI i (k + 1)) (1001, i, k) = none
          cases e : Zbl ls (pI i) (rI i (k + 1)) (1001, i, k) with
          | none => rfl
          | some b =>
            rcases Zb4 e with ⟨p, e1, _⟩ | ⟨p, q, e1, _, _, h2, _⟩
            · cases e1
            · cases e1; have := Zeq.1 h2; omega
        · exact .cons (.bp rfl rfl) (.cons (.bp rfl rfl) (.cons (.imm rfl) (.cons (.bp rfl rfl) (.cons (.imm rfl) (.cons (.rp rfl rfl hzk) (.cons (.rs rfl rfl rfl rfl) (.cons (.imm rfl) (.cons (.imm rfl) (.cons (.rs rfl rfl rfl rfl) (.cons (.imm rfl) (.cons (.imm rfl) .nil)))))))))))
        · refine .old rfl rfl (GB.one (.cons (.rs rfl rfl rfl rfl) .nil) (fun e => by cases e)) (.old rfl rfl (GB.one (.cons .any .nil) (fun e => by cases e)) (.old rfl rfl (GB_fun1 (fun q hq => keepA rfl (fun h => show Zbl ls (pI i) (rI i (k + 1)) (1000, q, 0) = _ from Zbv hq (by unfold pI; rw [Nat.blt_eq]; exact h)) (Zb2 (fun h => by cases h)) rfl (Zb2 (fun h => by cases h)))) (.old rfl rfl (GB.one (.cons (.imm rfl) (.cons (.imm rfl) (.cons (.rs rfl rfl rfl rfl) .nil))) (fun e => by cases e)) (.old rfl rfl (keepRowN (fun q h1 hq => ?_)) (.old (b0 := insR b.ins) Zeu ?_ (GB.rowI (Nat.le_refl _) (fun x hx => ⟨rfl, by rw [insJ_ge (Nat.zero_le _)]⟩)) .nil)))))
          · by_cases h2 : q = k
            · subst h2; exact .cc rfl Zcm (.rs rfl Zeu rfl (by rw [← hbk]))
            · exact .cc rfl (Zeb h2) (.rs (show Zbl ls (pI i) (rI i (k + 1)) (1001, i, q) = some (insR (l.getD q default).ins) from by rw [Zbq hlt (by rw [hlbe]; exact hq) (Zeq.2 (.inr ⟨rfl, by omega⟩)), hlbe]) (Zb2 (fun h => by cases h)) rfl rfl)
          · show Zbl ls (pI i) (rI i k) (1001, i, k) = _
            rw [Zbq hlt (by rw [hlbe]; exact hkl) (Zeq.2 (.inr ⟨rfl, Nat.le_refl _⟩)), hlbe, hbk]
        · exact keepF (Nat.le_succ _) (fun _ _ => ⟨rfl, rfl⟩) (fun _ _ => ⟨rfl, rfl⟩) (fun _ _ => ⟨(Zb2 (fun h => by cases h)), (Zb2 (fun h => by cases h))⟩)
        ((repeat' first | (refine Zac tok (by rfl) ?_; conv => whnf) | (refine @And.intro (Zaa _ _ _ _) _ ?_ ?_; rotate_left; (conv => whnf); rotate_right)); all_goals (try ((guard_target = Zaa _ _ _ _); refine Zae ?_; (all_goals (try simp only [Zaa, kzz, kz11, kz12, maxL, Zab] at *)); all_goals omega)))
        refine fAV (y := .rs (902, 0, 0) 7 0 b.ins.length) (show sel (Nat.blt k k) _ (sel (Nat.beq k k) _ _) = _ by rw [Zbc (Nat.le_refl _), Zcm]) ?_
        conv => whnf
        skip
        refine Zaf ?_
        refine Zas (fun j : Nat => mkF [(1, .bp (1, 0, 0) 0), (2, .bp (2, 0, 0) 0), (6, ints (Zb7 S)), (9, .bp (9, 0, 0) 0), (10, iv k), (11, .rp (901, 0, 0) 14 k 0), (46, .rs (900, 0, 0) 3 0 ls.length), (47, iv ls.length), (48, iv i), (53, .rs (901, 0, 0) 14 0 l.length), (54, iv l.length), (55, iv k), (65, .rs (902, 0, 0) 7 0 b.ins.length), (66, iv b.ins.length), (67, iv j)] [((1, 0, 0), .row false 1 1 (fun _ => [.rs (900, 0, 0) 3 0 ls.length])), ((2, 0, 0), anyB), ((900, 0, 0), funR1 ls (fun j => sel (Nat.blt j i) (Zbn (mapB (renC S) (ls.getD j default).blocks (ls.getD j default).blocks.length)) (sel (Nat.beq j i) (.rs (901, 0, 0) 14 0 l.length) (mem1 ls j)))), ((9, 0, 0), .row false 3 1 (fun _ => [iv (ls.getD i default).params, iv (ls.getD i default).regs, .rs (901, 0, 0) 14 0 l.length])), ((901, 0, 0), rowN S i k l (fun q => sel (Nat.beq q k) (.rs (902, 0, 0) 7 0 b.ins.length) (ownI i l q))), ((902, 0, 0), rowJ S b.ins j)] (Zbl ls (pI i) (rI i (k + 1)))) (fun j => j ≤ b.ins.length) (fun j => b.ins.length - j) 0 (Nat.zero_le _) ?_ ?_
        · refine Weak.fam [] rfl (fun i hi => by cases hi) ?_ ?_ (keepF (Nat.le_refl _) (fun _ _ => ⟨rfl, rfl⟩) (fun _ _ => ⟨rfl, rfl⟩) (fun _ _ => ⟨rfl, rfl⟩)) (fun i hi => by cases hi)
          · exact .cons (.bp rfl rfl) (.cons (.bp rfl rfl) (.cons (.imm rfl) (.cons (.bp rfl rfl) (.cons (.imm rfl) (.cons (.rp rfl rfl rfl) (.cons (.rs rfl rfl rfl rfl) (.cons (.imm rfl) (.cons (.imm rfl) (.cons (.rs rfl rfl rfl rfl) (.cons (.imm rfl) (.cons (.imm rfl) (.cons (.rs rfl rfl rfl rfl) (.cons (.imm rfl) (.cons (.imm rfl) .nil))))))))))))))
          · exact .old rfl rfl (GB.one (.cons (.rs rfl rfl rfl rfl) .nil) (fun e => by cases e)) (.old rfl rfl (GB.one (.cons .any .nil) (fun e => by cases e)) (.old rfl rfl (GB_fun1 (fun q hq => keepA rfl (fun h => show Zbl ls (pI i) (rI i (k + 1)) (1000, q, 0) = _ from Zbv hq (by unfold pI; rw [Nat.blt_eq]; exact h)) rfl rfl rfl)) (.old rfl rfl (GB.one (.cons (.imm rfl) (.cons (.imm rfl) (.cons (.rs rfl rfl rfl rfl) .nil))) (fun e => by cases e)) (.old rfl rfl (keepRowN (fun q h1 hq => keepX rfl rfl (fun h2 => (show Zbl ls (pI i) (rI i (k + 1)) (1001, i, q) = some (insR (l.getD q default).ins) from by rw [Zbq hlt (by rw [hlbe]; exact hq) (Zeq.2 (.inr ⟨rfl, by omega⟩)), hlbe])) rfl)) (.old rfl rfl (GB.rowI (Nat.le_refl _) (fun _ _ => ⟨rfl, rfl⟩)) .nil)))))
        intro j hj
        (repeat' ((fail_if_success (show AWp _ _ _ (Code.region 23 _ _) _ _)); (fail_if_success (show AWp _ _ _ (Code.region 26 _ _) _ _)); first | refine Zad ?_ | (refine Zac tok (by rfl) ?_; conv => whnf) | refine Zaf ?_ | (refine Zah ?_; conv => whnf) | (refine Zar ?_; conv => whnf) | refine Zag rfl (fun hb => ?_) (fun hb => ?_)))
        · have hjl : j < b.ins.length := by simp only [decide_eq_true_eq] at hb; omega
          clear hb
          have hzj : 0 + (j : Int).toNat = j := by simp
          have hxj : insJ S b.ins j (0 + (j : Int).toNat) = b.ins.getD j default := by rw [hzj, insJ_ge (Nat.le_refl _)]
          have hxf : (b.ins.getD j default).op = 11 → 0 ≤ (b.ins.getD j default).f ∧ (b.ins.getD j default).f < S.length ∧ (Zb7 S).getD (b.ins.getD j default).f.toNat 0 = numB S (b.ins.getD j default).f.toNat := fun h => hcb _ (Ze1.2 (.inl ⟨j, hjl, h, rfl⟩))
          ((repeat' first | (refine Zac tok (by rfl) ?_; conv => whnf) | (refine @And.intro (Zaa _ _ _ _) _ ?_ ?_; rotate_left; (conv => whnf); rotate_right)); all_goals (try ((guard_target = Zaa _ _ _ _); refine Zae ?_; (all_goals (try simp only [Zaa, kzz, kz11, kz12, maxL, Zab] at *)); all_goals omega)))
          refine fAV (y := .rs (902, 0, 0) 7 0 b.ins.length) (show sel (Nat.blt k k) _ (sel (Nat.beq k k) _ _) = _ by rw [Zbc (Nat.le_refl _), Zcm]) ?_
          conv => whnf
          ((repeat' ((fail_if_success (show AWp _ _ _ (Code.region 24 _ _) _ _)); (fail_if_success (show AWp _ _ _ (Code.region 25 _ _) _ _)); first | (refine Zah ?_; conv => whnf) | refine Zag rfl (fun hb => ?_) (fun hb => ?_) | (refine @And.intro (Zaa _ _ _ _) _ ?_ ?_; rotate_left; (conv => whnf); rotate_right))); all_goals (try ((guard_target = Zaa _ _ _ _); refine Zae ?_; (all_goals (try simp only [Zaa, kzz, kz11, kz12, maxL, Zab] at *)); all_goals omega)))
          · have h11 : (b.ins.getD j default).op = 11 := by rw [hxj] at hb; simpa using hb
            clear hb
            obtain ⟨g1, g2, g3⟩ := hxf h11
            have g1' : 0 ≤ (insJ S b.ins j (0 + (j : Int).toNat)).f := by rw [hxj]; exact g1
            have g2' : (insJ S b.ins j (0 + (j : Int).toNat)).f < (Zb7 S).length := by rw [hxj, hal]; exact g2
            ((repeat' first | (refine Za3 tok mix (by rfl) ?_; conv => whnf) | (refine @And.intro (Zaa _ _ _ _) _ ?_ ?_; rotate_left; (conv => whnf); rotate_right)); all_goals (try ((guard_target = Zaa _ _ _ _); refine Zae ?_; (all_goals (try simp only [Zaa, kzz, kz11, kz12, maxL, Zab] at *)); all_goals omega)))
            refine fAV (y := .rs (902, 0, 0) 7 0 b.ins.length) (show sel (Nat.blt k k) _ (sel (Nat.beq k k) _ _) = _ by rw [Zbc (Nat.le_refl _), Zcm]) ?_
            conv => whnf
            ((repeat' (refine @And.intro (Zaa _ _ _ _) _ ?_ ?_; rotate_left; (conv => whnf); rotate_right)); all_goals (try ((guard_target = Zaa _ _ _ _); refine Zae ?_; (all_goals (try simp only [Zaa, kzz, kz11, kz12, maxL, Zab] at *)); all_goals omega)))
            refine fAV (y := .rs (902, 0, 0) 7 0 b.ins.length) (show sel (Nat.blt k k) _ (sel (Nat.beq k k) _ _) = _ by rw [Zbc (Nat.le_refl _), Zcm]) ?_
            conv => whnf
            ((repeat' first | (refine Zac tok (by rfl) ?_; conv => whnf) | (refine @And.intro (Zaa _ _ _ _) _ ?_ ?_; rotate_left; (conv => whnf); rotate_right)); all_goals (try ((guard_target = Zaa _ _ _ _); refine Zae ?_; (all_goals (try simp only [Zaa, kzz, kz11, kz12, maxL, Zab] at *)); all_goals omega)))
            refine ⟨j + 1, hjl, by omega, ?_⟩
            refine Weak.fam [] rfl (fun i hi => by cases hi) ?_ ?_ (keepF (Nat.le_refl _) (fun _ _ => ⟨rfl, rfl⟩) (fun _ _ => ⟨rfl, rfl⟩) (fun _ _ => ⟨rfl, rfl⟩)) (fun i hi => by cases hi)
            · exact .cons (.bp rfl rfl) (.cons (.bp rfl rfl) (.cons (.imm rfl) (.cons (.bp rfl rfl) (.cons (.imm rfl) (.cons (.rp rfl rfl rfl) (.cons (.rs rfl rfl rfl rfl) (.cons (.imm rfl) (.cons (.imm rfl) (.cons (.rs rfl rfl rfl rfl) (.cons (.imm rfl) (.cons (.imm rfl) (.cons (.rs rfl rfl rfl rfl) (.cons (.imm rfl) (.cons (.int (by rw [Zal (by omega) (by omega)]; rfl)) .nil))))))))))))))
            · refine .old rfl rfl (GB.one (.cons (.rs rfl rfl rfl rfl) .nil) (fun e => by cases e)) (.old rfl rfl (GB.one (.cons .any .nil) (fun e => by cases e)) (.old rfl rfl (GB_fun1 (fun q hq => keepA rfl (fun h => show Zbl ls (pI i) (rI i (k + 1)) (1000, q, 0) = _ from Zbv hq (by unfold pI; rw [Nat.blt_eq]; exact h)) rfl rfl rfl)) (.old rfl rfl (GB.one (.cons (.imm rfl) (.cons (.imm rfl) (.cons (.rs rfl rfl rfl rfl) .nil))) (fun e => by cases e)) (.old rfl rfl (keepRowN (fun q h1 hq => keepX rfl rfl (fun h2 => (show Zbl ls (pI i) (rI i (k + 1)) (1001, i, q) = some (insR (l.getD q default).ins) from by rw [Zbq hlt (by rw [hlbe]; exact hq) (Zeq.2 (.inr ⟨rfl, by omega⟩)), hlbe])) rfl)) (.old rfl rfl (GB.row (Nat.le_refl _) (fun q hq => GVs.upd (fun e => ?_) (fun e => ?_)) (fun _ _ _ => rfl)) .nil)))))
              · have e' : q = j := by rw [e, hzj]
                subst e'
                show GVs _ _ _ (Zbd { insJ S b.ins q (0 + (q : Int).toNat) with f := (Zb7 S).getD (insJ S b.ins q (0 + (q : Int).toNat)).f.toNat 0 }) (Zbd (insJ S b.ins (q + 1) q))
                rw [hxj, insJ_lt (Nat.lt_succ_self q), g3]
                unfold renI
                rw [if_pos h11]
                exact GVs.imm rfl
              · have e' : q ≠ j := by rw [hzj] at e; exact e
                refine GVs.eqI rfl ?_
                show Zbd (insJ S b.ins j q) = Zbd (insJ S b.ins (j + 1) q)
                by_cases h1 : q < j
                · rw [insJ_lt h1, insJ_lt (by omega)]
                · rw [insJ_ge (by omega), insJ_ge (by omega)]
          · have h11 : ¬ (b.ins.getD j default).op = 11 := by rw [hxj] at hb; simpa using hb
            clear hb
            (repeat' (refine Zac tok (by rfl) ?_; conv => whnf))
            refine ⟨j + 1, hjl, by omega, ?_⟩
            refine Weak.fam [] rfl (fun i hi => by cases hi) ?_ ?_ (keepF (Nat.le_refl _) (fun _ _ => ⟨rfl, rfl⟩) (fun _ _ => ⟨rfl, rfl⟩) (fun _ _ => ⟨rfl, rfl⟩)) (fun i hi => by cases hi)
            · exact .cons (.bp rfl rfl) (.cons (.bp rfl rfl) (.cons (.imm rfl) (.cons (.bp rfl rfl) (.cons (.imm rfl) (.cons (.rp rfl rfl rfl) (.cons (.rs rfl rfl rfl rfl) (.cons (.imm rfl) (.cons (.imm rfl) (.cons (.rs rfl rfl rfl rfl) (.cons (.imm rfl) (.cons (.imm rfl) (.cons (.rs rfl rfl rfl rfl) (.cons (.imm rfl) (.cons (.int (by rw [Zal (by omega) (by omega)]; rfl)) .nil))))))))))))))
            · refine .old rfl rfl (GB.one (.cons (.rs rfl rfl rfl rfl) .nil) (fun e => by cases e)) (.old rfl rfl (GB.one (.cons .any .nil) (fun e => by cases e)) (.old rfl rfl (GB_fun1 (fun q hq => keepA rfl (fun h => show Zbl ls (pI i) (rI i (k + 1)) (1000, q, 0) = _ from Zbv hq (by unfold pI; rw [Nat.blt_eq]; exact h)) rfl rfl rfl)) (.old rfl rfl (GB.one (.cons (.imm rfl) (.cons (.imm rfl) (.cons (.rs rfl rfl rfl rfl) .nil))) (fun e => by cases e)) (.old rfl rfl (keepRowN (fun q h1 hq => keepX rfl rfl (fun h2 => (show Zbl ls (pI i) (rI i (k + 1)) (1001, i, q) = some (insR (l.getD q default).ins) from by rw [Zbq hlt (by rw [hlbe]; exact hq) (Zeq.2 (.inr ⟨rfl, by omega⟩)), hlbe])) rfl)) (.old rfl rfl (GB.rowI (Nat.le_refl _) (fun q hq => ⟨rfl, ?_⟩)) .nil)))))
              show Zbd (insJ S b.ins j q) = Zbd (insJ S b.ins (j + 1) q)
              by_cases h1 : q < j
              · rw [insJ_lt h1, insJ_lt (by omega)]
              · by_cases h2 : q = j
                · subst h2
                  rw [insJ_ge (Nat.le_refl _), insJ_lt (Nat.lt_succ_self q)]
                  unfold renI; rw [if_neg h11]
                · rw [insJ_ge (by omega), insJ_ge (by omega)]
        · have hjl : j = b.ins.length := by simp only [decide_eq_false_iff_not] at hb; omega
          clear hb
          subst hjl
          have hrest : ∀ (h : Zaq) (q : Nat), q < l.length → q ≠ k → GVs (srcL []) h (orH (Za6 [((1, 0, 0), .row false 1 1 (fun _ => [.rs (900, 0, 0) 3 0 ls.length])), ((2, 0, 0), anyB), ((900, 0, 0), funR1 ls (fun j => sel (Nat.blt j i) (Zbn (mapB (renC S) (ls.getD j default).blocks (ls.getD j default).blocks.length)) (sel (Nat.beq j i) (.rs (901, 0, 0) 14 0 l.length) (mem1 ls j)))), ((9, 0, 0), .row false 3 1 (fun _ => [iv (ls.getD i default).params, iv (ls.getD i default).regs, .rs (901, 0, 0) 14 0 l.length])), ((901, 0, 0), rowN S i (k + 1) l (ownI i l))]) (Zbl ls (pI i) (rI i (k + 1)))) (blkO ((mapB (renC S) l k).getD q default) (sel (Nat.blt q k) (inss (renC S (l.getD q default)).ins) (sel (Nat.beq q k) (.rs (902, 0, 0) 7 0 b.ins.length) (ownI i l q))))
              (blkO ((mapB (renC S) l (k + 1)).getD q default) (sel (Nat.blt q (k + 1)) (inss (renC S (l.getD q default)).ins) (ownI i l q))) := fun h q hq e => by
            have em : (mapB (renC S) l k).getD q default = (mapB (renC S) l (k + 1)).getD q default := by
              rw [mapB_at hq, mapB_at hq]
              by_cases h1 : q < k
              · rw [if_pos h1, if_pos (by omega)]
              · rw [if_neg h1, if_neg (by omega)]
            rw [em]
            by_cases h1 : q < k
            · exact Zb8 (.cc (Za0 h1) (Za0 (by omega)) (.imm rfl))
            · exact Zb8 (.cc ((Zbc (by omega)).trans (Zeb e)) (Zbc (by omega)) (.rs (show Zbl ls (pI i) (rI i (k + 1)) (1001, i, q) = some (insR (l.getD q default).ins) from by rw [Zbq hlt (by rw [hlbe]; exact hq) (Zeq.2 (.inr ⟨rfl, by omega⟩)), hlbe]) rfl rfl rfl))
          have hone : ∀ (h : Zaq) (c : Zbk) (q : Nat), q = k → { c with ins := b.ins.map (renI S) } = renC S b → h (902, 0, 0) = some (rowJ S b.ins b.ins.length) → GVs (srcL []) h (orH (Za6 [((1, 0, 0), .row false 1 1 (fun _ => [.rs (900, 0, 0) 3 0 ls.length])), ((2, 0, 0), anyB), ((900, 0, 0), funR1 ls (fun j => sel (Nat.blt j i) (Zbn (mapB (renC S) (ls.getD j default).blocks (ls.getD j default).blocks.length)) (sel (Nat.beq j i) (.rs (901, 0, 0) 14 0 l.length) (mem1 ls j)))), ((9, 0, 0), .row false 3 1 (fun _ => [iv (ls.getD i default).params, iv (ls.getD i default).regs, .rs (901, 0, 0) 14 0 l.length])), ((901, 0, 0), rowN S i (k + 1) l (ownI i l))]) (Zbl ls (pI i) (rI i (k + 1)))) (blkO c (.rs (902, 0, 0) 7 0 b.ins.length))
              (blkO ((mapB (renC S) l (k + 1)).getD q default) (sel (Nat.blt q (k + 1)) (inss (renC S (l.getD q default)).ins) (ownI i l q))) := fun h c q e hc h902 => by
            subst e
            have em : (mapB (renC S) l (q + 1)).getD q default = renC S b := by rw [mapB_at hkl, if_pos (Nat.lt_succ_self q), hbk]
            rw [em, ← hc]
            show GVs _ _ _ (blkO c _) (blkO c _)
            refine Zb8 (.cc rfl ((Za0 (Nat.lt_succ_self q)).trans (by rw [hbk]; rfl)) (frzJ (hd_of rfl (treeG_hd (fun a b => ⟨(fun e => by have e' := Option.some.inj e; cases e'), fun e => by have e' := Option.some.inj e; cases e'⟩))) h902))
          ((repeat' ((fail_if_success (show AWp _ _ _ (Code.region 27 _ _) _ _)); (fail_if_success (show AWp _ _ _ (Code.region 28 _ _) _ _)); first | (refine Zac tok (by rfl) ?_; conv => whnf) | (refine Zah ?_; conv => whnf) | refine Zag rfl (fun hb => ?_) (fun hb => ?_) | (refine @And.intro (Zaa _ _ _ _) _ ?_ ?_; rotate_left; (conv => whnf); rotate_right))); all_goals (try ((guard_target = Zaa _ _ _ _); refine Zae ?_; (all_goals (try simp only [Zaa, kzz, kz11, kz12, maxL, Zab] at *)); all_goals omega)))
          · have h4 : b.fin.kind = 4 := by rw [hmk] at hb; simpa using hb
            clear hb
            obtain ⟨g1, g2, g3⟩ := hcb b.fin.f (Ze1.2 (.inr ⟨h4, rfl⟩))
            have g1' : 0 ≤ ((mapB (renC S) l k).getD k default).fin.f := by rw [hmk]; exact g1
            have g2' : ((mapB (renC S) l k).getD k default).fin.f < (Zb7 S).length := by rw [hmk, hal]; exact g2
            ((repeat' first | (refine Zac tok (by rfl) ?_; conv => whnf) | (refine @And.intro (Zaa _ _ _ _) _ ?_ ?_; rotate_left; (conv => whnf); rotate_right)); all_goals (try ((guard_target = Zaa _ _ _ _); refine Zae ?_; (all_goals (try simp only [Zaa, kzz, kz11, kz12, maxL, Zab] at *)); all_goals omega)))
            refine fAV (y := .rs (902, 0, 0) 7 0 b.ins.length) (show sel (Nat.blt k k) _ (sel (Nat.beq k k) _ _) = _ by rw [Zbc (Nat.le_refl _), Zcm]) ?_
            conv => whnf
            (repeat' (refine Zac tok (by rfl) ?_; conv => whnf))
            refine ⟨k + 1, hkl, by omega, ?_⟩
            refine Weak.fam [] rfl (fun i hi => by cases hi) ?_ ?_ (keepF (Nat.le_refl _) (fun _ _ => ⟨rfl, rfl⟩) (fun _ _ => ⟨rfl, rfl⟩) (fun _ _ => ⟨rfl, rfl⟩)) (fun i hi => by cases hi)
            · exact .cons (.bp rfl rfl) (.cons (.bp rfl rfl) (.cons (.imm rfl) (.cons (.bp rfl rfl) (.cons (.rs rfl rfl rfl rfl) (.cons (.imm rfl) (.cons (.imm rfl) (.cons (.rs rfl rfl rfl rfl) (.cons (.imm rfl) (.cons (.int (by rw [Zal (by omega) (by omega)]; rfl)) .nil)))))))))
            · refine .old rfl rfl (GB.one (.cons (.rs rfl rfl rfl rfl) .nil) (fun e => by cases e)) (.old rfl rfl (GB.one (.cons .any .nil) (fun e => by cases e)) (.old rfl rfl (GB_fun1 (fun q hq => keepA rfl (fun h => show Zbl ls (pI i) (rI i (k + 1)) (1000, q, 0) = _ from Zbv hq (by unfold pI; rw [Nat.blt_eq]; exact h)) rfl rfl rfl)) (.old rfl rfl (GB.one (.cons (.imm rfl) (.cons (.imm rfl) (.cons (.rs rfl rfl rfl rfl) .nil))) (fun e => by cases e)) (.old rfl rfl (GB.row (Nat.le_refl _) (fun q hq => GVs.upd (fun e => ?_) (fun e => ?_)) (fun e => by cases e)) .nil))))
              · refine hone _ { (mapB (renC S) l k).getD k default with fin := { ((mapB (renC S) l k).getD k default).fin with f := (Zb7 S).getD ((mapB (renC S) l k).getD k default).fin.f.toNat 0 } } q e ?_ rfl
                rw [hmk, g3]; unfold renC renE; rw [if_pos h4]
              · exact hrest _ q hq e
          · have h4 : ¬ b.fin.kind = 4 := by rw [hmk] at hb; simpa using hb
            clear hb
            (repeat' (refine Zac tok (by rfl) ?_; conv => whnf))
            refine ⟨k + 1, hkl, by omega, ?_⟩
            refine Weak.fam [] rfl (fun i hi => by cases hi) ?_ ?_ (keepF (Nat.le_refl _) (fun _ _ => ⟨rfl, rfl⟩) (fun _ _ => ⟨rfl, rfl⟩) (fun _ _ => ⟨rfl, rfl⟩)) (fun i hi => by cases hi)
            · exact .cons (.bp rfl rfl) (.cons (.bp rfl rfl) (.cons (.imm rfl) (.cons (.bp rfl rfl) (.cons (.rs rfl rfl rfl rfl) (.cons (.imm rfl) (.cons (.imm rfl) (.cons (.rs rfl rfl rfl rfl) (.cons (.imm rfl) (.cons (.int (by rw [Zal (by omega) (by omega)]; rfl)) .nil)))))))))
            · refine .old rfl rfl (GB.one (.cons (.rs rfl rfl rfl rfl) .nil) (fun e => by cases e)) (.old rfl rfl (GB.one (.cons .any .nil) (fun e => by cases e)) (.old rfl rfl (GB_fun1 (fun q hq => keepA rfl (fun h => show Zbl ls (pI i) (rI i (k + 1)) (1000, q, 0) = _ from Zbv hq (by unfold pI; rw [Nat.blt_eq]; exact h)) rfl rfl rfl)) (.old rfl rfl (GB.one (.cons (.imm rfl) (.cons (.imm rfl) (.cons (.rs rfl rfl rfl rfl) .nil))) (fun e => by cases e)) (.old rfl rfl (GB.row (Nat.le_refl _) (fun q hq => ?_) (fun e => by cases e)) .nil))))
              by_cases e : q = k
              · subst e
                show GVs _ _ _ (blkO ((mapB (renC S) l q).getD q default) (sel (Nat.blt q q) _ (sel (Nat.beq q q) _ _))) _
                rw [Zbc (Nat.le_refl _), Zcm]
                refine hone _ ((mapB (renC S) l q).getD q default) q rfl ?_ rfl
                rw [hmk]; unfold renC renE; rw [if_neg h4]
              · exact hrest _ q hq e
      · have hkl : k = l.length := by simp only [decide_eq_false_iff_not] at hb; omega
        clear hb
        subst hkl
        (repeat' (refine Zac tok (by rfl) ?_; conv => whnf))
        refine ⟨i + 1, hlt, by omega, ?_⟩
        refine Weak.fam [] rfl (fun i hi => by cases hi) ?_ ?_ ?_ (fun i hi => by cases hi)
        · exact .cons (.bp rfl rfl) (.cons (.bp rfl rfl) (.cons (.imm rfl) (.cons (.rs rfl rfl rfl rfl) (.cons (.imm rfl) (.cons (.int (by rw [Zal (by omega) (by omega)]; rfl)) .nil)))))
        · refine .old rfl rfl (GB.one (.cons (.rs rfl rfl rfl rfl) .nil) (fun e => by cases e)) (.old rfl rfl (GB.one (.cons .any .nil) (fun e => by cases e)) (.old rfl rfl (GB.row (Nat.le_refl _) (fun q hq => .cons (.imm rfl) (.cons (.imm rfl) (.cons ?_ .nil))) (fun e => by cases e)) .nil))
          by_cases h1 : q < i
          · exact .cc (Za0 h1) (Za0 (Nat.lt_succ_of_lt h1)) (.imm rfl)
          · by_cases h2 : q = i
            · subst h2
              refine .cc (x' := .rs (901, 0, 0) 14 0 l.length) (y' := Zbn (mapB (renC S) l l.length)) ((Zbc (Nat.le_refl _)).trans Zcm) ((Za0 (Nat.lt_succ_self q)).trans (by rw [hlbe]))
                (.frz (hd_of rfl (treeG_hd (fun a b => ⟨(fun e => by have e' := Option.some.inj e; cases e'), fun e => by have e' := Option.some.inj e; cases e'⟩))) (imm := false) (k := l.length) rfl (Nat.le_of_eq (Nat.zero_add _)) (mapB_len _ _).symm (fun x hx => ?_) (fun _ _ => rfl))
              rw [Nat.zero_add]
              show GVs _ _ _ (blkO _ (sel (Nat.blt x l.length) _ _)) (Zam ((mapB (renC S) l l.length).getD x default))
              rw [Za0 hx, mapB_at hx, if_pos hx]
              exact GVs.imm rfl
            · exact .cc ((Zbc (Nat.le_of_not_lt h1)).trans (Zeb h2)) (Zbc (show i + 1 ≤ q by omega)) (.rs (show Zbl ls (pO (i + 1)) (rO (i + 1)) (1000, q, 0) = _ from Zbv hq (by unfold pO; rw [Nat.ble_eq]; omega)) rfl rfl rfl)
        · intro j b e
          rcases Zb4 e with ⟨p, rfl, hp, h2, rfl⟩ | ⟨p, q, rfl, hp, hq, h2, rfl⟩
          · have h2' : i < p := by unfold pO at h2; rw [Nat.ble_eq] at h2; omega
            exact HOk.mk rfl (show Zbl ls (pI i) (rI i l.length) (1000, p, 0) = _ from Zbv hp (by unfold pI; rw [Nat.blt_eq]; exact h2')) (Zcq (fun q hq => .cc (Za0 hq) (Za0 hq) (.rs (show Zbl ls (pO (i + 1)) (rO (i + 1)) (1001, p, q) = _ from Zbq hp hq (by unfold rO; rw [Nat.ble_eq]; omega)) rfl rfl rfl)))
          · have h2' : i < p := by unfold rO at h2; rw [Nat.ble_eq] at h2; omega
            exact HOk.mk rfl (show Zbl ls (pI i) (rI i l.length) (1001, p, q) = _ from Zbq hp hq (Zeq.2 (.inl h2'))) (Zc7 _)
    · have hil : i = ls.length := by simp only [decide_eq_false_iff_not] at hb; omega
      clear hb
      subst hil
      (repeat' first | (refine Zac tok (by rfl) ?_; conv => whnf) | (refine Zaj ?_; conv => whnf))
      refine ⟨_, rfl, Rel.tup (.cons (Rel.agg (.cons ?_ .nil)) (.cons (Rel.int (by simp [errM, hr])) .nil))⟩
      have hdm : deadM ⟨fs⟩ = ⟨ls.map (renF S)⟩ := by unfold deadM; rw [if_pos hr, hM2]
      rw [hdm]
      show Rel _ _ (.sl 3 (ls.map (renF S)).length _)
      rw [List.length_map]
      refine Rel.rs (imm := false) (k := ls.length) (f := fun j => [iv (ls.getD j default).params, iv (ls.getD j default).regs, sel (Nat.blt j ls.length) (Zbn (mapB (renC S) (ls.getD j default).blocks (ls.getD j default).blocks.length)) (mem1 ls j)]) rfl (Nat.le_of_eq (Nat.zero_add _)) (fun j hj => ?_)
      rw [Nat.zero_add, Za0 hj, mapB_all]
      have e1 : (ls.map (renF S)).getD j default = renF S (ls.getD j default) := by
        rw [List.getD_eq_getElem?_getD, List.getElem?_map, List.getElem?_eq_getElem hj, Zbh default hj]; rfl
      rw [e1]
      exact Rels.imm rfl
end Go.Proofs.Ytmanpbgaihdalaa
namespace Go.Proofs.Ytmanpbgaihdalaa
open Go Dv
set_option maxRecDepth 10000
set_option linter.unusedSimpArgs false
end Go.Proofs.Ytmanpbgaihdalaa
namespace Go.Proofs.Ytmanpbgaihdalaa
open Go Dv
set_option maxRecDepth 10000
set_option linter.unusedSimpArgs false
structure Iv2 (len : Nat) (D : Nat → List Bool → Bool) (is : List Bool) (n : Nat) (js : List Bool) : Prop where
  sz : js.length = len
  be : Zf0 len D js
  le : leL is js
  don : ∀ j, j < n → D j is = true → js.getD j false = true
theorem Iv2.set {len : Nat} {D : Nat → List Bool → Bool} {is js : List Bool} {n m : Nat} (h : Iv2 len D is n js) (hD : MonoD D) (hm : m < len) (hd : D m js = true) : Iv2 len D is n (js.set m true) := by
  have hs := h.sz
  refine ⟨by simp [hs], fun c hc i e => ?_, h.le.trans (leL_set _ _), fun j hj hd => leL_set _ _ j (h.don j hj hd)⟩
  rw [set_get (by omega), Bool.or_eq_true] at e
  rcases e with e | e
  · have : m = i := by simpa using e
    subst this
    exact hc.cl m hm (hD m js c (h.be c hc) hd)
  · exact h.be c hc i e
structure Iv0 (len : Nat) (D : Nat → List Bool → Bool) (r : Nat) (is : List Bool) : Prop where
  sz : is.length = len
  be : Zf0 len D is
  pr : Closed len D is ∨ r ≤ cnt is
theorem Iv0.next {len : Nat} {D : Nat → List Bool → Bool} {is js : List Bool} {r : Nat} (h0 : Iv0 len D r is) (h : Iv2 len D is len js) : Iv0 len D (r + 1) js := by
  refine ⟨h.sz, h.be, ?_⟩
  obtain ⟨h1, h2⟩ := cnt_mono (by rw [h0.sz, h.sz]) h.le
  by_cases hc : cnt js ≤ cnt is
  · have e := h2 hc
    left
    refine ⟨h.sz, fun n hn hd => ?_⟩
    exact h.don n hn (by rw [e]; exact hd)
  · rcases h0.pr with hcl | hcl
    · exfalso
      have e1 := h.be is hcl
      have := (cnt_mono (by rw [h0.sz, h.sz]) e1).1
      omega
    · right; omega
theorem Iv0.done {len : Nat} {D : Nat → List Bool → Bool} (hD : MonoD D) {is : List Bool} (h0 : Iv0 len D (len + 1) is) : is = lfp len D := by
  refine lfp_uniq hD ?_ h0.be
  rcases h0.pr with h | h
  · exact h
  · have := cnt_le (a := is); rw [h0.sz] at this; omega
end Go.Proofs.Ytmanpbgaihdalaa
namespace Go.Proofs.Ytmanpbgaihdalaa
open Go Dv
set_option maxRecDepth 10000
set_option linter.unusedSimpArgs false
end Go.Proofs.Ytmanpbgaihdalaa
namespace Go.Proofs.Ytmanpbgaihdalaa
open Go Dv
set_option maxRecDepth 10000
set_option linter.unusedSimpArgs false
end Go.Proofs.Ytmanpbgaihdalaa
namespace Go.Proofs.Ytmanpbgaihdalaa
open Go Dv Go.ChangeShapes Go.WideShapes Go.ChangeAt Go.RowKit
open Go.Proofs.Ytmanpbgaihdalaa
set_option maxRecDepth 10000
set_option linter.unusedVariables false
section
variable {H : Type} {enc : TypeId × Value → H} {w : World}
abbrev Sm (H : Type) : DataW H → Prop := fun d => Rows.uptoBulk d ≤ 1048576
theorem bulk_all {ds : List (DataW H)} {n : Nat} (h : Rows.uptoBulkAll ds ≤ n) : ∀ d ∈ ds, Rows.uptoBulk d ≤ n := by
  induction ds with
  | nil => intro d hd; cases hd
  | cons x r ih =>
    simp only [Rows.uptoBulkAll] at h
    intro d hd
    simp only [List.mem_cons] at hd
    rcases hd with rfl | hd
    · omega
    · exact ih (by omega) d hd
theorem bulk_pos (d : DataW H) : 1 ≤ Rows.uptoBulk d := by
  cases d with
  | lit l => cases l <;> simp only [Rows.uptoBulk] <;> omega
  | _ => simp only [Rows.uptoBulk]; omega
theorem bulk_len {ds : List (DataW H)} {n : Nat} (h : Rows.uptoBulkAll ds ≤ n) : ds.length ≤ n := by
  induction ds generalizing n with
  | nil => simp
  | cons x r ih =>
    simp only [Rows.uptoBulkAll] at h
    have := bulk_pos x
    have := ih (n := n - Rows.uptoBulk x) (by omega)
    simp only [List.length_cons]; omega
theorem sm_agg (ds : List (DataW H)) (h : Sm H (.agg ds)) : ∀ d ∈ ds, Sm H d := by
  simp only [Sm, Rows.uptoBulk] at h; exact bulk_all (by omega)
theorem sm_slice (es sp : List (DataW H)) (h : Sm H (.slice es sp)) : es.length ≤ maxL ∧ ∀ x ∈ es, Sm H x := by
  simp only [Sm, Rows.uptoBulk] at h
  have h1 : Rows.uptoBulkAll es ≤ 1048576 := by omega
  exact ⟨Nat.le_trans (bulk_len h1) (by decide), bulk_all h1⟩
theorem Zec : Rd enc Try.prog w (Sm H) 3 Int (fun n => [iv n]) := Rd.int Try.underlying3
theorem rd_u16 : Rd enc Try.prog w (Sm H) 55 Int (fun n => [.int .u16 n]) := Rd.int Try.underlying55
theorem rd_bool : Rd enc Try.prog w (Sm H) 4 Bool (fun b => [.bool b]) := Rd.bool Try.underlying4
theorem rd_ints : Rd enc Try.prog w (Sm H) 31 (List Int) (fun l => [ints l]) := Rd.slice Try.underlying31 (by decide +kernel) (Nat.le_refl _) (fun _ => ⟨rfl, rfl⟩) Zec sm_slice
theorem rd_u16s : Rd enc Try.prog w (Sm H) 37 (List Int) (fun l => [u16s l]) := Rd.slice Try.underlying37 (by decide +kernel) (Nat.le_refl _) (fun _ => ⟨rfl, rfl⟩) rd_u16 sm_slice
theorem rd_Ins : Rd enc Try.prog w (Sm H) 57 Ins Zbd :=
  Rd.map (fun x => ⟨x.1, x.2.1, x.2.2.1, x.2.2.2.1, x.2.2.2.2.1, x.2.2.2.2.2.1, x.2.2.2.2.2.2.1⟩)
    (Rd.struct (fl := [(3, 1), (3, 1), (3, 1), (3, 1), (55, 1), (3, 1), (31, 1)]) Try.underlying57 (.cons Zec (.cons Zec (.cons Zec (.cons Zec (.cons rd_u16 (.cons Zec (.cons rd_ints .nil)))))))
      rfl (by decide +kernel) (by decide +kernel) sm_agg) (fun _ => rfl)
theorem rd_inss : Rd enc Try.prog w (Sm H) 40 (List Ins) (fun l => [inss l]) := Rd.slice Try.underlying40 (by decide +kernel) (by decide) (fun _ => ⟨rfl, rfl⟩) rd_Ins sm_slice
theorem rd_End : Rd enc Try.prog w (Sm H) 36 End Zcg :=
  Rd.map (fun x => ⟨x.1, x.2.1, x.2.2.1, x.2.2.2.1, x.2.2.2.2.1, x.2.2.2.2.2.1, x.2.2.2.2.2.2.1, x.2.2.2.2.2.2.2.1⟩)
    (Rd.struct (fl := [(3, 1), (3, 1), (3, 1), (3, 1), (31, 1), (3, 1), (3, 1), (3, 1)]) Try.underlying36 (.cons Zec (.cons Zec (.cons Zec (.cons Zec (.cons rd_ints (.cons Zec (.cons Zec (.cons Zec .nil))))))))
      rfl (by decide +kernel) (by decide +kernel) sm_agg) (fun _ => rfl)
theorem rd_Pad : Rd enc Try.prog w (Sm H) 39 Pad Zd6 :=
  Rd.map (fun x => ⟨x.1, x.2.1, x.2.2.1, x.2.2.2.1⟩)
    (Rd.struct (fl := [(3, 1), (37, 1), (4, 1), (4, 1)]) Try.underlying39 (.cons Zec (.cons rd_u16s (.cons rd_bool (.cons rd_bool .nil))))
      rfl (by decide +kernel) (by decide +kernel) sm_agg) (fun _ => rfl)
theorem rd_Block : Rd enc Try.prog w (Sm H) 42 Zbk Zam :=
  Rd.map (fun x => ⟨x.1, x.2.1, x.2.2.1, x.2.2.2.1⟩)
    (Rd.struct (fl := [(4, 1), (39, 4), (40, 1), (36, 8)]) Try.underlying42 (.cons rd_bool (.cons rd_Pad (.cons rd_inss (.cons rd_End .nil))))
      rfl (by decide +kernel) (by decide +kernel) sm_agg) (fun _ => rfl)
theorem rd_blocks : Rd enc Try.prog w (Sm H) 32 (List Zbk) (fun l => [Zbn l]) := Rd.slice Try.underlying32 (by decide +kernel) (by decide) (fun _ => ⟨rfl, rfl⟩) rd_Block sm_slice
theorem rd_Func : Rd enc Try.prog w (Sm H) 34 Func Zai :=
  Rd.map (fun x => ⟨x.1, x.2.1, x.2.2.1⟩)
    (Rd.struct (fl := [(3, 1), (3, 1), (32, 1)]) Try.underlying34 (.cons Zec (.cons Zec (.cons rd_blocks .nil)))
      rfl (by decide +kernel) (by decide +kernel) sm_agg) (fun _ => rfl)
theorem rd_funcs : Rd enc Try.prog w (Sm H) 22 (List Func) (fun l => [funcss l]) := Rd.slice Try.underlying22 (by decide +kernel) (by decide) (fun _ => ⟨rfl, rfl⟩) rd_Func sm_slice
theorem rd_Module : Rd enc Try.prog w (Sm H) 24 Za1 Zax :=
  Rd.map (fun x => ⟨x.1⟩)
    (Rd.struct (fl := [(22, 1)]) Try.underlying24 (.cons rd_funcs .nil)
      rfl (by decide +kernel) (by decide +kernel) sm_agg) (fun _ => rfl)
end
theorem small_of {H : Type} {ds gs : List (DataW H)} (hk : Rows.uptoSmall H (ds ++ gs) = true) : ∀ d ∈ ds, Sm H d := by
  have h := of_decide_eq_true hk
  exact fun d hd => bulk_all h d (List.mem_append_left _ hd)
end Go.Proofs.Ytmanpbgaihdalaa
namespace Go.Proofs.Ytmanpbgaihdalaa
open Go Dv
set_option maxRecDepth 10000
set_option linter.unusedSimpArgs false
end Go.Proofs.Ytmanpbgaihdalaa
namespace Go.Proofs.Ytmanpbgaihdalaa
open Go Dv
set_option maxRecDepth 10000
set_option linter.unusedSimpArgs false
def nilPad : Pad := ⟨0, [], false, false⟩
end Go.Proofs.Ytmanpbgaihdalaa
namespace Go.Proofs.Ytmanpbgaihdalaa
open Go Dv
set_option maxRecDepth 10000
set_option linter.unusedSimpArgs false
end Go.Proofs.Ytmanpbgaihdalaa
namespace Go.Proofs.Ytmanpbgaihdalaa
open Go Dv
set_option maxRecDepth 10000
set_option linter.unusedSimpArgs false
end Go.Proofs.Ytmanpbgaihdalaa
namespace Go.Proofs.Ytmanpbgaihdalaa
open Go Dv
set_option maxRecDepth 10000
set_option linter.unusedSimpArgs false
theorem c_dFuncF (f : Func) : FC Try.prog 59 [.agg (Zai f)] (.agg (Zai (Zbm f))) := by
  refine (c_dFunc 0 f).fc (Rel.agg (.cons (Rel.imm rfl) (.cons (Rel.imm rfl) (.cons ?_ .nil))))
  refine Rel.rs (imm := false) (k := (Zbm f).blocks.length) (f := fun q => blkO ((Zbm f).blocks.getD q default) (sel (Nat.blt q (Zbm f).blocks.length) (.rs (1001, 0, q) 7 0 ((Zbm f).blocks.getD q default).ins.length) .any)) (Zbs (Zbm f)) (Nat.le_of_eq (Nat.zero_add _)) (fun q hq => ?_)
  rw [Nat.zero_add, Za0 hq]
  refine Rels.cons (Rel.imm rfl) (Rels.cons (Rel.imm rfl) (Rels.cons (Rel.imm rfl) (Rels.cons (Rel.imm rfl) (Rels.cons (Rel.imm rfl) (Rels.cons (Rel.rs (imm := true) (k := ((Zbm f).blocks.getD q default).ins.length) (f := fun x => Zbd (((Zbm f).blocks.getD q default).ins.getD x default)) (Zbi hq) (Nat.le_of_eq (Nat.zero_add _)) (fun x hx => by rw [Nat.zero_add]; exact Rels.imm rfl)) (Rels.imm rfl))))))
def awDB (to : Int) (kind : Int) : Zbk := ⟨false, nilPad, [], ⟨kind, 0, 0, 0, [], to, 0, 0⟩⟩
def awD : Func := ⟨0, 1, [awDB 2 2, awDB 0 1, awDB 0 1]⟩
def awDF : Func := ⟨0, 1, [awDB 1 2, awDB 0 1]⟩
theorem r13_awD : Zbm awD = awDF := by
  unfold Zbm
  rw [← Fl.walked_reach]
  rw [show (Fl.Zc8 awD).1 = [true, false, true] from by decide +kernel]
  rw [if_pos (by decide +kernel)]
  decide +kernel
theorem r13_awDF : Zbm awDF = awDF := by
  unfold Zbm
  rw [← Fl.walked_reach]
  rw [show (Fl.Zc8 awDF).1 = [true, true] from by decide +kernel]
  rw [if_pos (by decide +kernel)]
  decide +kernel
theorem dead_aw : deadM ⟨[awDF, awDF]⟩ = ⟨[awDF]⟩ := by
  have hc : clrM ⟨[awDF, awDF]⟩ = ⟨[awDF, awDF]⟩ := by unfold clrM; simp only [List.map_cons, List.map_nil, r13_awDF]
  have hs : Zem ⟨[awDF, awDF]⟩ = [true, false] := by
    unfold Zem toM; rw [hc]; decide +kernel
  unfold deadM
  rw [if_pos (by decide +kernel)]
  unfold ref13M
  rw [hs, hc]
  decide +kernel
set_option maxHeartbeats 4000000 in
theorem c_awake13 : FC Try.prog 57 [] (.bool true) := by
  refine Zay tok Try.func57 rfl (by decide +kernel) (Nat.le_of_ble_eq_true rfl) ?_
  have h1 : FC Try.prog 59 [.agg (Zai awD)] (.agg (Zai awDF)) := by
    have := c_dFuncF awD
    rw [r13_awD] at this; exact this
  have h2 : FC Try.prog 58 [.agg (Zax ⟨[awDF, awDF]⟩)] (.tup [.agg (Zax ⟨[awDF]⟩), iv 0]) := by
    have := c_dModule ⟨[awDF, awDF]⟩
    rw [dead_aw, show errM ⟨[awDF, awDF]⟩ = 0 from by decide +kernel] at this; exact this
  have e1 : awDF.blocks.length = 2 := rfl
  have e3 : ([awDF] : List Func).length = 1 := rfl
  (repeat' first | refine Zad ?_ | (refine Zac tok (by rfl) ?_; conv => whnf))
  refine .inr ⟨_, _, _, uG (QH.give (args' := [.agg (Zai awD)]) (rd := [Zcv (some 11)]) h1 (.cons (.agg (.cons (.imm rfl) (.cons (.imm rfl) (.cons (.rsN rfl (by simp) (Nat.le_refl _) rfl (ltS (.cons (.imm rfl) (.cons (.imm rfl) (.cons .nsl (.cons (.imm rfl) (.cons (.imm rfl) (.cons .nsl (.cons (.imm rfl) (.cons (.imm rfl) (.cons (.imm rfl) (.cons (.imm rfl) (.cons .nsl (.cons (.imm rfl) (.cons (.imm rfl) (.cons (.imm rfl) .nil)))))))))))))) (ltS (.cons (.imm rfl) (.cons (.imm rfl) (.cons .nsl (.cons (.imm rfl) (.cons (.imm rfl) (.cons .nsl (.cons (.imm rfl) (.cons (.imm rfl) (.cons (.imm rfl) (.cons (.imm rfl) (.cons .nsl (.cons (.imm rfl) (.cons (.imm rfl) (.cons (.imm rfl) .nil)))))))))))))) (ltS (.cons (.imm rfl) (.cons (.imm rfl) (.cons .nsl (.cons (.imm rfl) (.cons (.imm rfl) (.cons .nsl (.cons (.imm rfl) (.cons (.imm rfl) (.cons (.imm rfl) (.cons (.imm rfl) (.cons .nsl (.cons (.imm rfl) (.cons (.imm rfl) (.cons (.imm rfl) .nil)))))))))))))) lt0)))) .nil)))) .nil) rfl), ?_⟩
  conv => whnf
  (repeat' first | refine Zad ?_ | (refine Zac tok (by rfl) ?_; conv => whnf) | (refine Zah ?_; conv => whnf) | (refine Zaj ?_; conv => whnf) | refine Zag rfl (fun hb => ?_) (fun hb => ?_))
  · exfalso; revert hb; decide
  clear hb
  refine .inr ⟨_, _, _, uG (QH.give (args' := [.agg (Zax ⟨[awDF, awDF]⟩)]) (rd := [Zcv (some 21)]) h2 (.cons (.agg (.cons (.rsN rfl (by simp) (Nat.le_refl _) rfl (ltS (Ress.imms rfl) (ltS (Ress.imms rfl) lt0))) .nil)) .nil) rfl), ?_⟩
  conv => whnf
  ((repeat' first | refine Zad ?_ | (refine Zac tok (by rfl) ?_; conv => whnf) | (refine Zaj ?_; conv => whnf) | (refine @And.intro (Zaa _ _ _ _) _ ?_ ?_; rotate_left; (conv => whnf); rotate_right)); all_goals (try ((guard_target = Zaa _ _ _ _); ((refine Za9 ?_; intro hgd; (conv at hgd => whnf))); (all_goals (try simp only [Zaa, kzz, kz11, kz12, maxL, Zab] at *)); all_goals omega)))
  exact ⟨_, rfl, Rel.bool rfl⟩
set_option maxHeartbeats 4000000 in
theorem c_DeadRight (m : Za1) (f : Func) : FC Try.prog 12 [.agg (Zax m), .agg (Zai f)] (.bool true) := by
  refine Zay tok Try.func12 rfl (by decide +kernel) (Nat.le_of_ble_eq_true rfl) ?_
  (repeat' first | refine Zad ?_ | (refine Zac tok (by rfl) ?_; conv => whnf))
  refine .inl ⟨_, _, _, uG (QC.fc c_awake13 rfl), ?_⟩
  conv => whnf
  (repeat' first | refine Zad ?_ | (refine Zac tok (by rfl) ?_; conv => whnf) | (refine Zah ?_; conv => whnf) | (refine Zaj ?_; conv => whnf) | refine Zag rfl (fun hb => ?_) (fun hb => ?_))
  · cases hb
  clear hb
  refine .inl ⟨_, _, _, uG (QC.fc (c_Short m) rfl), ?_⟩
  conv => whnf
  skip
  refine .inl ⟨_, _, _, uG (QC.sc (rd := [Zcv (some 15)]) (c_Short ⟨[f]⟩) (.cons (.agg (.cons (.rsN rfl (by simp) (Nat.le_refl _) rfl (ltS (Ress.imms rfl) lt0)) .nil)) .nil) rfl), ?_⟩
  conv => whnf
  (repeat' first | refine Zad ?_ | (refine Zac tok (by rfl) ?_; conv => whnf) | (refine Zah ?_; conv => whnf) | (refine Zaj ?_; conv => whnf) | refine Zag rfl (fun hb => ?_) (fun hb => ?_))
  · exact ⟨_, rfl, Rel.bool rfl⟩
  clear hb
  refine .inl ⟨_, _, _, uG (QC.fc (c_CopyF m) rfl), ?_⟩
  conv => whnf
  (repeat' first | refine Zad ?_ | (refine Zac tok (by rfl) ?_; conv => whnf))
  refine .inl ⟨_, _, _, uG (QC.fc (c_dModule m) rfl), ?_⟩
  conv => whnf
  (repeat' first | refine Zad ?_ | (refine Za3 tok mix (by rfl) ?_; conv => whnf))
  refine .inl ⟨_, _, _, uG (QC.fc (c_rSame m m) rfl), ?_⟩
  conv => whnf
  skip
  refine .inl ⟨_, _, _, uG (QC.fc (c_dFuncF f) rfl), ?_⟩
  conv => whnf
  skip
  refine .inl ⟨_, _, _, uG (QC.fc (c_r13Func f) rfl), ?_⟩
  conv => whnf
  skip
  refine .inl ⟨_, _, _, uG (QC.fc (c_rSameFunc (Zbm f) (Zbm f)) rfl), ?_⟩
  conv => whnf
  (repeat' first | refine Zad ?_ | (refine Zac tok (by rfl) ?_; conv => whnf) | (refine Zah ?_; conv => whnf) | (refine Zaj ?_; conv => whnf) | refine Zag rfl (fun hb => ?_) (fun hb => ?_))
  · simp at hb
  clear hb
  refine .inl ⟨_, _, _, uG (QC.fc (c_Right m) rfl), ?_⟩
  conv => whnf
  (repeat' first | refine Zad ?_ | (refine Zac tok (by rfl) ?_; conv => whnf) | (refine Za3 tok mix (by rfl) ?_; conv => whnf) | (refine Zah ?_; conv => whnf) | refine Zag rfl (fun hb => ?_) (fun hb => ?_))
  · have hr : Zc0 m = false := by simpa using hb
    refine .inl ⟨_, _, _, uG (QC.fc (c_rSame (deadM m) m) rfl), ?_⟩
    conv => whnf
    (repeat' (refine Zaj ?_; conv => whnf))
    refine ⟨_, rfl, Rel.bool ?_⟩
    simp [errM, deadM, hr]
  have hr : Zc0 m = true := by simpa using hb
  refine .inl ⟨_, _, _, uG (QC.fc (c_r13Module m hr) rfl), ?_⟩
  conv => whnf
  skip
  refine .inl ⟨_, _, _, uG (QC.fc (c_rSame (deadM m) (ref13M m)) rfl), ?_⟩
  conv => whnf
  (repeat' (refine Zaj ?_; conv => whnf))
  refine ⟨_, rfl, Rel.bool ?_⟩
  simp [errM, deadM, hr]
end Go.Proofs.Ytmanpbgaihdalaa
namespace Go.Proofs.Ytmanpbgaihdalaa
open Go Dv Go.ChangeShapes Go.WideShapes Go.ChangeAt Go.RowKit
open Go.Proofs.Ytmanpbgaihdalaa
set_option maxRecDepth 100000
set_option linter.unusedVariables false
namespace deadRight
theorem own : ownKnob Try.prog.godebug = none := by kernel_rfl
theorem contract (H : Type) (enc : TypeId × Value → H) (W : World) (base : Nat) (args : Array Value) (ds gs : List (DataW H)) (before : List MemPlace) (hk : Rows.uptoSmall H (ds ++ gs) = true)
    (hval : ∀ (j : Nat) t v, Try.f12.params[j]? = some t → args[j]? = some v → Value.okWide Try.prog W .any base t v)
    (hW : DataW.Whole enc Try.prog Try.f12.params.toList Rows.deadRightSpec.vars false W args.toList ds gs before) :
    Calls Try.prog 12 args W fun e W' => ∃ v, e = .returned v ∧ Rows.deadRightSpec.post enc Try.prog Try.f12 false true false false W args v W' := by
  have hsm := small_of hk
  have hW' := hW
  obtain ⟨p, q, hA0, hV, rfl, hfz, hnd⟩ := hW
  have hA : DataW.TrodAll enc Try.prog W 0 (fun _ => true) true Try.f12.params.toList args.toList ds p := hA0
  rw [Try.params12] at hA hval
  obtain ⟨v0, vs0, d0, ds0, p0, q0, hargs, rfl, rfl, h0, r0⟩ := trodAll_cons hA
  obtain ⟨v1, vs1, d1, ds1, p1, q1, rfl, rfl, rfl, h1, r1⟩ := trodAll_cons r0
  obtain ⟨rfl, rfl, rfl⟩ := trodAll_nil r1
  obtain rfl : args = #[v0, v1] := by cases args; simp_all
  obtain ⟨x0, hx0⟩ := arg_struct Try.underlying24 (hval 0 _ v0 rfl rfl) h0 rd_Module (hsm d0 (by simp))
  obtain ⟨x1, hx1⟩ := arg_struct Try.underlying34 (hval 1 _ v1 rfl rfl) h1 rd_Func (hsm d1 (by simp))
  obtain ⟨rfl, rfl⟩ := trodVars_none hV
  refine law_contract (tb := 4) (by decide +kernel) (by rw [Try.params12]; decide +kernel) rfl (by kernel_rfl) Try.underlying4 hW' ⟨rfl, rfl, rfl⟩ (FC.calls (c_DeadRight x0 x1) ?_)
  simp only [Vs]
  exact ⟨_, _, rfl, hx0, _, _, rfl, hx1, rfl⟩
theorem lifted (os : Os) (started : os.Started) (H : Type) (enc : TypeId × Value → H) (F : Stop.Interp) :
    ReturnsInHanded {} Try.checked os 12 .any ((Rows.OpenSpec.upto Rows.deadRightSpec).pre6 enc Try.prog Try.f12 Rows.deadRightUptoRow.domain false) (((Rows.OpenSpec.upto Rows.deadRightSpec).at F).post enc Try.prog Try.f12 false true false false) := by
  refine returnsInHanded_of_cond (C := Try.checked) (s := Rows.OpenSpec.upto Rows.deadRightSpec) (k := Rows.uptoSmall) rfl own started (by kernel_rfl) Try.func12
    (OpenSpec.witness (enc := enc) (C := Try.checked) (s := Rows.OpenSpec.upto Rows.deadRightSpec) (k := Rows.uptoSmall) rfl false ⟨#[], #[.agg #[.slice none 0 0], .agg #[.int .i64 0, .int .i64 0, .slice none 0 0]], []⟩ 64 (by kernel_rfl) (by kernel_rfl) (by kernel_rfl)
      (x := ([.agg [.nil], .agg [.lit (.int .i64 0), .lit (.int .i64 0), .nil]], [], [])) (by kernel_rfl) rfl (by kernel_rfl)) ?_
  intro W base args ds gs before hval hW _ hk _
  exact contract H enc W base args ds gs before hk hval hW
theorem over : Rows.deadRightUptoRow.holds Try.pinned (Rows.OpenSpec.upto Rows.deadRightSpec) :=
  OpenClaim.holds_of_cond 12 Try.f12 rfl rfl rfl rfl rfl rfl rfl ⟨rfl, rfl, rfl, rfl, rfl⟩ rfl rfl rfl rfl rfl (by kernel_rfl) Try.func12 (by kernel_rfl)
    (of_decide_eq_true (by kernel_rfl)) (by unfold Func.isWrapper; first | (rw [if_pos (by decide +kernel)]; kernel_rfl) | (rw [if_neg (by decide +kernel)]; exact ⟨rfl, rfl⟩))
    (fun os started H enc _ F => lifted os started H enc F)
end deadRight
theorem deadRight_holds : Rows.DeadRightUptoSaid := deadRight.over
end Go.Proofs.Ytmanpbgaihdalaa
