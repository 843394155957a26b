/- The law FoldRight holds, in the form Upto. -/
import Derived.Test.YtmanpbgaihdalaaDvc3
import Derived.Test.YtmanpbgaihdalaaLawFoldRight2
import Derived.Test.YtmanpbgaihdalaaRows
import Derived.WalkKit
import Derived.ProofKit
import Derived.OpenShut
import Derived.JoinedCond
set_option linter.unusedVariables false
set_option linter.unusedSimpArgs false
set_option linter.unnecessarySimpa false
namespace Go.Proofs.Ytmanpbgaihdalaa
open Go Dv
set_option maxRecDepth 10000
set_option linter.unusedSimpArgs false
def setB (m : Module) (n k : Nat) (b : Block) : Module := ⟨m.funcs.set n { (m.funcs.getD n default) with blocks := (m.funcs.getD n default).blocks.set k b }⟩
theorem c_with (m : Module) (n k : Nat) (b : Block) (hn : n < m.funcs.length) (hk : k < (m.funcs.getD n default).blocks.length) : FC Try.prog 120 [.agg (encMod m), iv n, iv k, .agg (encBlock b)] (.agg (encMod (setB m n k b))) := by
  refine FC_intro tok Try.func120 rfl (by decide +kernel) (Nat.le_of_ble_eq_true rfl) ?_
  refine AWp_facts 0 (fun hl => ?_)
  have hl0 : m.funcs.length ≤ maxL := hl.1.1
  have hl1 : (m.funcs.getD n default).blocks.length ≤ maxL := (hl.1.2 n hn).2.2.1.1
  have hmx : maxL = 4294967296 := rfl
  clear hl
  have hz : 0 + (n : Int).toNat = n := by simp
  have hzk : 0 + (k : Int).toNat = k := by simp
  ((repeat' ((fail_if_success (show AWp _ _ _ (Code.region 5 _ _) _ _)); first | refine AWp_seq ?_ | (refine AWp_reg tok (by rfl) ?_; conv => whnf) | (refine @And.intro (underG _ _ _ _) _ ?_ ?_; rotate_left; (conv => whnf); rotate_right))); all_goals (try ((guard_target = underG _ _ _ _); refine underG_none ?_; (first | refine And.intro srcObl_sl ?_ | skip); (all_goals (try simp only [underG, true_and, and_true, Bool.cond_true_left, Bool.cond_false_left, Bool.cond_true_right, Bool.cond_false_right, Bool.or_eq_true, Bool.and_eq_true, Bool.or_eq_false_iff, Bool.and_eq_false_iff, cond_true, cond_false, Bool.not_eq_eq_eq_not, Bool.not_true, Bool.not_false, decide_eq_true_eq, decide_eq_false_iff_not, Int.toNat_natCast, Nat.zero_add, Decidable.not_not, maxL, inn_iff] at *)); all_goals omega)))
  · refine underG_none (And.intro srcObl_sl ?_)
    show 0 ≤ 0 ∧ 0 + (m.funcs.getD (0 + (n : Int).toNat - 0) default).blocks.length ≤ maxL
    rw [Nat.sub_zero, hz, Nat.zero_add]; exact ⟨Nat.le_refl _, hl1⟩
  · refine underG_none ?_
    show (0 : Int) ≤ k ∧ (k : Int) < ((0 + (m.funcs.getD (0 + (n : Int).toNat - 0) default).blocks.length : Nat) : Int)
    rw [Nat.sub_zero, hz, Nat.zero_add]; omega
  refine AWp_weak (Weak.fam (tl := [(4, .bp (4, 0, 0) 0), (8, .bp (8, 0, 0) 0), (9, funcss (setB m n k b).funcs)]) (hl := [((4, 0, 0), .row true 1 1 (fun _ => encMod m)), ((8, 0, 0), boxed [.nsl])]) (F := noH) [] rfl (fun i hi => by cases hi)
    (.cons (.bp rfl rfl) (.cons (.bp rfl rfl) (.cons ?_ .nil))) (.old rfl rfl (GB.one (GVs.imm rfl) (fun _ => rfl)) (.old rfl rfl (GB.one (GVs.imm rfl) (fun _ => rfl)) .nil)) noF (fun i hi => by cases hi)) ?_
  · refine GV.frz (hd_no rfl) rfl (Nat.le_of_eq (Nat.zero_add _)) (by simp [setB]) (fun x hx => GVs.upd (fun e => ?_) (fun e => GVs.eqI rfl ?_)) (fun x hx => rfl)
    · rw [Nat.zero_add, hz] at e; subst e
      have h1 : (setB m x k b).funcs.getD x default = { (m.funcs.getD x default) with blocks := (m.funcs.getD x default).blocks.set k b } := by simp only [setB]; rw [getD_set, if_pos ⟨rfl, hn⟩]
      rw [h1]
      refine .cons (GV.int (by simp)) (.cons (GV.int (by simp)) (.cons (GV.frz (hd_no rfl) rfl (Nat.le_of_eq (Nat.zero_add _)) (by simp) (fun y hy => GVs.upd (fun e => ?_) (fun e => GVs.eqI rfl ?_)) (fun _ _ => rfl)) .nil))
      · rw [Nat.zero_add, hzk] at e; subst e
        rw [getD_set, if_pos ⟨rfl, hk⟩]
        exact GVs.imm rfl
      · rw [getD_set, if_neg (fun h => e (by rw [Nat.zero_add, hzk]; exact h.1.symm))]
        show encBlock ((m.funcs.getD _ default).blocks.getD _ default) = _
        simp
    · have h1 : (setB m n k b).funcs.getD x default = m.funcs.getD x default := by
        simp only [setB]; rw [getD_set, if_neg (fun h => e (by rw [Nat.zero_add, hz]; exact h.1.symm))]
      rw [h1]
      show encFunc (m.funcs.getD _ default) = _
      simp
  (repeat' first | refine AWp_seq ?_ | (refine AWp_reg tok (by rfl) ?_; conv => whnf) | (refine AWp_ret ?_; conv => whnf))
  exact ⟨_, rfl, Rel.agg (Rels.imm rfl)⟩
theorem c_With (m : Module) (n k : Nat) (b : Block) (hn : n < m.funcs.length) (hk : k < (m.funcs.getD n default).blocks.length) : FC Try.prog 81 [.agg (encMod m), iv n, iv k, .agg (encBlock b)] (.agg (encMod (setB m n k b))) := by
  refine FC_intro tok Try.func81 rfl (by decide +kernel) (Nat.le_of_ble_eq_true rfl) ?_
  (repeat' first | refine AWp_seq ?_ | (refine AWp_reg tok (by rfl) ?_; conv => whnf))
  refine .inl ⟨_, _, _, uG (QC.fc (c_with m n k b hn hk) rfl), ?_⟩
  conv => whnf
  (repeat' (refine AWp_ret ?_; conv => whnf))
  exact ⟨_, rfl, Rel.agg (Rels.imm rfl)⟩
end Go.Proofs.Ytmanpbgaihdalaa
namespace Go.Proofs.Ytmanpbgaihdalaa
open Go Dv
set_option linter.unusedSimpArgs false
/-! same: the program's map is the reference's search backwards. -/
def setsP (x : Ins) (p : Int) : Prop := x.op ≠ 10 ∧ x.op ≠ 12 ∧ x.dst = p
instance (x : Ins) (p : Int) : Decidable (setsP x p) := by unfold setsP; infer_instance
def alikeP (x y : Ins) : Prop := x.op = y.op ∧ 3 ≤ x.op ∧ x.op ≤ 8 ∧ ((x.a = y.a ∧ x.b = y.b) ∨ ((x.op = 3 ∨ x.op = 5 ∨ x.op = 7) ∧ x.a = y.b ∧ x.b = y.a))
instance (x y : Ins) : Decidable (alikeP x y) := by unfold alikeP; infer_instance
def keptAt (l : List Ins) (i k : Nat) : Prop := ¬ setsP (l.getD k default) (l.getD i default).a ∧ ¬ setsP (l.getD k default) (l.getD i default).b ∧ (i < k → ¬ setsP (l.getD k default) (l.getD i default).dst)
instance (l : List Ins) (i k : Nat) : Decidable (keptAt l i k) := by unfold keptAt; infer_instance
def keptP (l : List Ins) (i : Nat) : Prop := ∀ k, k < l.length → i ≤ k → keptAt l i k
instance (l : List Ins) (i : Nat) : Decidable (keptP l i) := by unfold keptP; infer_instance
def findR (l : List Ins) (x : Ins) : Nat → Option Nat
  | 0 => none
  | k + 1 => if alikeP (l.getD k default) x ∧ keptP l k then some k else findR l x k
def refX (l : List Ins) (x : Ins) : Ins := match findR l x l.length with
  | some k => ⟨2, x.dst, (l.getD k default).dst, 0, 0, 0, []⟩
  | none => x
def refL : List Ins → List Ins → List Ins
  | l, [] => l
  | l, x :: r => refL (l ++ [refX l x]) r
def ref17B (b : Block) : Block := { b with ins := refL [] b.ins }
theorem twoO_iff {op : Int} : twoO op = true ↔ 3 ≤ op ∧ op ≤ 8 := by
  unfold twoO; cases h : decide (2 < op) <;> simp at h ⊢ <;> omega
theorem alike_iff {x y : Ins} : alikeP x y ↔ twoO x.op = true ∧ (ofD x).l = (ofD y).l := by
  rw [twoO_iff]
  unfold alikeP ofD turnsO Deed.l
  simp only [decide_eq_true_eq]
  constructor
  · rintro ⟨h1, h2, h3, h4⟩
    refine ⟨⟨h2, h3⟩, ?_⟩
    split <;> split <;> simp <;> omega
  · rintro ⟨⟨h2, h3⟩, h4⟩
    split at h4 <;> split at h4 <;> simp at h4 <;> omega
theorem hit_of {x : Ins} {p v : Int} : hit p ((ofD x).l, v) = true ↔ x.a = p ∨ x.b = p ∨ v = p := by
  unfold hit ofD Deed.l
  split <;> simp [or_assoc] <;> omega
theorem mlook_mem {m : Mp} {k : List Int} {v : Int} (h : mlook m k = some v) : (k, v) ∈ m := by
  induction m with
  | nil => cases h
  | cons q r ih =>
    obtain ⟨a, b⟩ := q
    simp only [mlook] at h
    split at h
    · rename_i e; subst e; cases h; simp
    · exact List.mem_cons_of_mem _ (ih h)
theorem mem_mlook {m : Mp} (hn : (m.map (·.1)).Nodup) {k : List Int} {v : Int} (h : (k, v) ∈ m) : mlook m k = some v := by
  induction m with
  | nil => cases h
  | cons q r ih =>
    obtain ⟨a, b⟩ := q
    simp only [List.map_cons, List.nodup_cons] at hn
    simp only [mlook]
    rcases List.mem_cons.1 h with e | e
    · cases e; simp
    · split
      · rename_i e2; subst e2; exact absurd (List.mem_map.2 ⟨_, e, rfl⟩) hn.1
      · exact ih hn.2 e
theorem mlook_forget {m : Mp} (hn : (m.map (·.1)).Nodup) {p : Int} {k : List Int} {v : Int} : mlook (forgetM m p) k = some v ↔ mlook m k = some v ∧ hit p (k, v) = false := by
  have hn2 : ((forgetM m p).map (·.1)).Nodup := by
    unfold forgetM
    exact (List.Sublist.map _ List.filter_sublist).nodup hn
  constructor
  · intro h
    have := mlook_mem h
    unfold forgetM at this
    rw [List.mem_filter] at this
    exact ⟨mem_mlook hn this.1, by simpa using this.2⟩
  · rintro ⟨h1, h2⟩
    refine mem_mlook hn2 ?_
    unfold forgetM
    rw [List.mem_filter]
    exact ⟨mlook_mem h1, by simp [h2]⟩
theorem mlook_mput {m : Mp} {k k' : List Int} {v : Int} : mlook (mput m k v) k' = if k = k' then some v else mlook m k' := by
  induction m with
  | nil => simp [mput, mlook]
  | cons q r ih =>
    obtain ⟨a, b⟩ := q
    simp only [mput]
    by_cases e : a = k
    · subst e
      simp only [if_true, mlook]
      by_cases e2 : a = k'
      · simp [e2]
      · simp [e2]
    · simp only [if_neg e, mlook]
      by_cases e2 : a = k'
      · subst e2; simp; exact fun h => absurd h.symm e
      · simp only [if_neg e2]; exact ih
theorem mem_mput {m : Mp} {k : List Int} {v : Int} {q : List Int × Int} (h : q ∈ mput m k v) : q = (k, v) ∨ q ∈ m := by
  induction m with
  | nil => simp [mput] at h; exact .inl h
  | cons p r ih =>
    obtain ⟨a, b⟩ := p
    simp only [mput] at h
    split at h
    · rcases List.mem_cons.1 h with h | h
      · exact .inl h
      · exact .inr (List.mem_cons_of_mem _ h)
    · rcases List.mem_cons.1 h with h | h
      · exact .inr (h ▸ List.mem_cons_self)
      · rcases ih h with h | h
        · exact .inl h
        · exact .inr (List.mem_cons_of_mem _ h)
theorem mput_keys {m : Mp} {k : List Int} {v : Int} (hn : (m.map (·.1)).Nodup) : ((mput m k v).map (·.1)).Nodup := by
  induction m with
  | nil => simp [mput]
  | cons q r ih =>
    obtain ⟨a, b⟩ := q
    simp only [List.map_cons, List.nodup_cons] at hn
    simp only [mput]
    by_cases e : a = k
    · subst e; simp only [if_true, List.map_cons, List.nodup_cons]; exact hn
    · simp only [if_neg e, List.map_cons, List.nodup_cons]
      refine ⟨fun h => ?_, ih hn.2⟩
      rw [List.mem_map] at h
      obtain ⟨⟨c, d⟩, h1, h2⟩ := h
      simp only at h2; subst h2
      rcases mem_mput h1 with h3 | h3
      · cases h3; exact e rfl
      · exact hn.1 (List.mem_map.2 ⟨_, h3, rfl⟩)
theorem snoc_lt {l : List Ins} {y : Ins} {k : Nat} (h : k < l.length) : (l ++ [y]).getD k default = l.getD k default := by rw [getD_append, if_pos h]
theorem snoc_eq {l : List Ins} {y : Ins} : (l ++ [y]).getD l.length default = y := by rw [getD_append, if_neg (Nat.lt_irrefl _), Nat.sub_self]; rfl
theorem kept_old {l : List Ins} {y : Ins} {i : Nat} (hi : i < l.length) : keptP (l ++ [y]) i ↔ keptP l i ∧ ¬ setsP y (l.getD i default).a ∧ ¬ setsP y (l.getD i default).b ∧ ¬ setsP y (l.getD i default).dst := by
  constructor
  · intro h
    refine ⟨fun k hk hik => ?_, ?_⟩
    · have := h k (by simp; omega) hik
      unfold keptAt at this ⊢
      rw [snoc_lt hk, snoc_lt hi] at this; exact this
    · have := h l.length (by simp) (by omega)
      unfold keptAt at this
      rw [snoc_eq, snoc_lt hi] at this
      exact ⟨this.1, this.2.1, this.2.2 hi⟩
  · rintro ⟨h1, h2, h3, h4⟩ k hk hik
    unfold keptAt
    by_cases e : k < l.length
    · have := h1 k e hik
      unfold keptAt at this
      rw [snoc_lt e, snoc_lt hi]; exact this
    · have : k = l.length := by simp at hk; omega
      subst this
      rw [snoc_eq, snoc_lt hi]; exact ⟨h2, h3, fun _ => h4⟩
theorem kept_new {l : List Ins} {y : Ins} : keptP (l ++ [y]) l.length ↔ ¬ setsP y y.a ∧ ¬ setsP y y.b := by
  constructor
  · intro h
    have := h l.length (by simp) (Nat.le_refl _)
    unfold keptAt at this
    rw [snoc_eq] at this; exact ⟨this.1, this.2.1⟩
  · rintro ⟨h1, h2⟩ k hk hik
    have : k = l.length := by simp at hk; omega
    subst this
    unfold keptAt
    rw [snoc_eq]; exact ⟨h1, h2, fun h => absurd h (Nat.lt_irrefl _)⟩
structure PInv (l : List Ins) (m : Mp) : Prop where
  nd : (m.map (·.1)).Nodup
  fwd : ∀ key v, mlook m key = some v → ∃ k, k < l.length ∧ keptP l k ∧ twoO (l.getD k default).op = true ∧ (ofD (l.getD k default)).l = key ∧ (l.getD k default).dst = v
  bwd : ∀ k, k < l.length → keptP l k → twoO (l.getD k default).op = true → mlook m (ofD (l.getD k default)).l = some (l.getD k default).dst
theorem findR_some {l : List Ins} {x : Ins} : ∀ {n k : Nat}, findR l x n = some k → k < n ∧ alikeP (l.getD k default) x ∧ keptP l k
  | 0, _, h => by cases h
  | n + 1, k, h => by
      simp only [findR] at h
      split at h
      · rename_i h2; cases h; exact ⟨Nat.lt_succ_self _, h2⟩
      · obtain ⟨h1, h2⟩ := findR_some h; exact ⟨by omega, h2⟩
theorem findR_none {l : List Ins} {x : Ins} : ∀ {n : Nat}, findR l x n = none → ∀ k, k < n → ¬ (alikeP (l.getD k default) x ∧ keptP l k)
  | 0, _, k, hk => by omega
  | n + 1, h, k, hk => by
      simp only [findR] at h
      split at h
      · cases h
      · rename_i h2
        by_cases e : k = n
        · subst e; exact h2
        · exact findR_none h k (by omega)
theorem refX_eq {l : List Ins} {m : Mp} (h : PInv l m) (x : Ins) : refX l x = sameY m x := by
  unfold refX sameY sameHit
  cases hf : findR l x l.length with
  | some k =>
    obtain ⟨h1, h2, h3⟩ := findR_some hf
    obtain ⟨h4, h5⟩ := alike_iff.1 h2
    have h6 := h.bwd k h1 h3 h4
    have hop : (l.getD k default).op = x.op := h2.1
    rw [h5] at h6
    rw [← hop, h4, h6]; rfl
  | none =>
    have hno := findR_none hf
    cases ht : twoO x.op with
    | false => rfl
    | true =>
      cases hm : mlook m (ofD x).l with
      | none => rfl
      | some v =>
        obtain ⟨k, h1, h2, h3, h4, _⟩ := h.fwd _ _ hm
        exact absurd ⟨alike_iff.2 ⟨h3, h4⟩, h2⟩ (hno k h1)
theorem PInv.step {l : List Ins} {m : Mp} (h : PInv l m) (x : Ins) : PInv (l ++ [sameY m x]) (sameM m x) := by
  generalize hy : sameY m x = y
  have hset : ∀ p, setsP y p ↔ ¬ (y.op = 10 ∨ y.op = 12) ∧ y.dst = p := fun p => by unfold setsP; omega
  have htwo : twoO y.op = true → y = x ∧ twoO x.op = true ∧ mlook m (ofD x).l = none := fun ht => by
    unfold sameY at hy
    split at hy
    · subst hy; simp [twoO] at ht
    · rename_i hh
      subst hy
      refine ⟨rfl, ht, ?_⟩
      unfold sameHit at hh
      rw [ht] at hh
      cases hm : mlook m (ofD x).l with
      | none => rfl
      | some v => rw [hm] at hh; simp at hh
  unfold sameM
  rw [hy]
  by_cases h10 : y.op = 10 ∨ y.op = 12
  · rw [if_pos h10]
    have hno : ∀ p, ¬ setsP y p := fun p hp => ((hset p).1 hp).1 h10
    refine ⟨h.nd, fun key v hv => ?_, fun k hk hkp ht => ?_⟩
    · obtain ⟨k, h1, h2, h3, h4, h5⟩ := h.fwd key v hv
      exact ⟨k, by simp; omega, (kept_old h1).2 ⟨h2, hno _, hno _, hno _⟩, by rw [snoc_lt h1]; exact h3, by rw [snoc_lt h1]; exact h4, by rw [snoc_lt h1]; exact h5⟩
    · by_cases e : k < l.length
      · rw [snoc_lt e] at ht ⊢
        exact h.bwd k e ((kept_old e).1 hkp).1 ht
      · have : k = l.length := by simp at hk; omega
        subst this
        rw [snoc_eq, twoO_iff] at ht
        omega
  · rw [if_neg h10]
    have hset2 : ∀ p, setsP y p ↔ y.dst = p := fun p => by rw [hset]; exact ⟨fun a => a.2, fun a => ⟨h10, a⟩⟩
    have hnf : ((forgetM m y.dst).map (·.1)).Nodup := by
      unfold forgetM; exact (List.Sublist.map _ List.filter_sublist).nodup h.nd
    -- what was kept is kept, and the other way
    have old1 : ∀ key v, mlook (forgetM m y.dst) key = some v → ∃ k, k < (l ++ [y]).length ∧ keptP (l ++ [y]) k ∧ twoO ((l ++ [y]).getD k default).op = true ∧ (ofD ((l ++ [y]).getD k default)).l = key ∧ ((l ++ [y]).getD k default).dst = v := fun key v hv => by
      obtain ⟨h0, hh⟩ := (mlook_forget h.nd).1 hv
      obtain ⟨k, h1, h2, h3, h4, h5⟩ := h.fwd key v h0
      have h6 : ¬ ((l.getD k default).a = y.dst ∨ (l.getD k default).b = y.dst ∨ v = y.dst) := fun e => by
        have := hit_of.2 e
        rw [h4, hh] at this; cases this
      exact ⟨k, by simp; omega, (kept_old h1).2 ⟨h2, fun e => h6 (.inl ((hset2 _).1 e).symm), fun e => h6 (.inr (.inl ((hset2 _).1 e).symm)), fun e => h6 (.inr (.inr (by rw [← h5]; exact ((hset2 _).1 e).symm)))⟩, by rw [snoc_lt h1]; exact h3, by rw [snoc_lt h1]; exact h4, by rw [snoc_lt h1]; exact h5⟩
    have old2 : ∀ k, k < l.length → keptP (l ++ [y]) k → twoO (l.getD k default).op = true → mlook m (ofD (l.getD k default)).l = some (l.getD k default).dst ∧ mlook (forgetM m y.dst) (ofD (l.getD k default)).l = some (l.getD k default).dst := fun k e hkp ht => by
      obtain ⟨h1, h2, h3, h4⟩ := (kept_old e).1 hkp
      have h5 := h.bwd k e h1 ht
      refine ⟨h5, (mlook_forget h.nd).2 ⟨h5, ?_⟩⟩
      rw [Bool.eq_false_iff]
      intro hh
      rw [hset2] at h2 h3 h4
      rcases hit_of.1 hh with e1 | e1 | e1
      · exact h2 e1.symm
      · exact h3 e1.symm
      · exact h4 e1.symm
    by_cases hput : sameOk m x = true ∧ y.dst ≠ (ofD x).a ∧ y.dst ≠ (ofD x).b
    · rw [if_pos hput]
      obtain ⟨hok, hna, hnb⟩ := hput
      unfold sameOk at hok
      rw [Bool.and_eq_true] at hok
      have hnone : mlook m (ofD x).l = none := by
        cases hm : mlook m (ofD x).l with
        | none => rfl
        | some v => rw [hm] at hok; simp at hok
      have hyx : y = x := by
        unfold sameY sameHit at hy
        rw [hok.1, hnone] at hy; simpa using hy.symm
      subst hyx
      have hab : y.dst ≠ y.a ∧ y.dst ≠ y.b := by
        unfold ofD at hna hnb
        split at hna <;> simp_all
      refine ⟨mput_keys hnf, fun key v hv => ?_, fun k hk hkp ht => ?_⟩
      · rw [mlook_mput] at hv
        split at hv
        · rename_i e
          cases hv
          exact ⟨l.length, by simp, kept_new.2 ⟨fun e => hab.1 ((hset2 _).1 e), fun e => hab.2 ((hset2 _).1 e)⟩, by rw [snoc_eq]; exact hok.1, by rw [snoc_eq]; exact e, by rw [snoc_eq]⟩
        · exact old1 key v hv
      · by_cases e : k < l.length
        · rw [snoc_lt e] at ht ⊢
          obtain ⟨a1, a2⟩ := old2 k e hkp ht
          rw [mlook_mput, if_neg (fun e2 => by rw [← e2, hnone] at a1; cases a1)]
          exact a2
        · have : k = l.length := by simp at hk; omega
          subst this
          rw [snoc_eq, mlook_mput, if_pos rfl]
    · rw [if_neg hput]
      refine ⟨hnf, old1, fun k hk hkp ht => ?_⟩
      by_cases e : k < l.length
      · rw [snoc_lt e] at ht ⊢
        exact (old2 k e hkp ht).2
      · exfalso
        have : k = l.length := by simp at hk; omega
        subst this
        rw [snoc_eq] at ht
        obtain ⟨rfl, h1, h2⟩ := htwo ht
        obtain ⟨h3, h4⟩ := kept_new.1 hkp
        rw [hset2] at h3 h4
        refine hput ⟨by unfold sameOk; rw [h1, h2]; rfl, ?_, ?_⟩
        · unfold ofD; split <;> simp <;> first | exact h4 | exact h3
        · unfold ofD; split <;> simp <;> first | exact h3 | exact h4
theorem PInv.nil : PInv [] [] := ⟨List.nodup_nil, (fun _ _ h => by cases h), (fun k hk => by simp at hk)⟩
theorem refL_eq : ∀ (r l : List Ins) (m : Mp), PInv l m → refL l r = l ++ (sameIns m r).1
  | [], l, m, _ => by simp [refL, sameIns]
  | x :: r, l, m, h => by
      simp only [refL, sameIns]
      rw [refX_eq h, refL_eq r _ _ (h.step x)]
      simp
theorem ref17B_eq (b : Block) : ref17B b = sameBlock b := by
  unfold ref17B sameBlock
  rw [refL_eq b.ins [] [] PInv.nil]; rfl
end Go.Proofs.Ytmanpbgaihdalaa
namespace Go.Proofs.Ytmanpbgaihdalaa
open Go Dv
set_option maxRecDepth 10000
set_option linter.unusedSimpArgs false
theorem c_r17sets (x : Ins) (p : Int) : FC Try.prog 119 [.agg (encIns x), iv p] (.bool (decide (setsP x p))) := by
  refine FC_intro tok Try.func119 rfl (by decide +kernel) (Nat.le_of_ble_eq_true rfl) ?_
  (repeat' first | refine AWp_seq ?_ | (refine AWp_reg tok (by rfl) ?_; conv => whnf) | (refine AWp_ret ?_; conv => whnf))
  refine ⟨_, rfl, Rel.bool ?_⟩
  rw [Bool.eq_iff_iff, decide_eq_true_eq]
  simp [setsP, and_assoc]
theorem c_r17alike (x y : Ins) : FC Try.prog 79 [.agg (encIns x), .agg (encIns y)] (.bool (decide (alikeP x y))) := by
  refine FC_intro tok Try.func79 rfl (by decide +kernel) (Nat.le_of_ble_eq_true rfl) ?_
  (repeat' first | refine AWp_seq ?_ | (refine AWp_reg tok (by rfl) ?_; conv => whnf) | (refine AWp_ret ?_; conv => whnf))
  refine ⟨_, rfl, Rel.bool ?_⟩
  rw [Bool.eq_iff_iff, decide_eq_true_eq]
  simp [alikeP, and_assoc, or_assoc]
theorem c_r17kept (l : List Ins) (i : Nat) (hi : i < l.length) : FC Try.prog 80 [inss l, iv i] (.bool (decide (keptP l i))) := by
  refine FC_intro tok Try.func80 rfl (by decide +kernel) (Nat.le_of_ble_eq_true rfl) ?_
  refine AWp_facts 0 (fun hl => ?_)
  have hl0 : l.length ≤ maxL := hl.1
  have hmx : maxL = 4294967296 := rfl
  clear hl
  (repeat' first | refine AWp_seq ?_ | (refine AWp_reg tok (by rfl) ?_; conv => whnf) | refine AWp_block ?_)
  refine AWp_loop (fun k : Nat => mkS [(0, inss l), (1, iv i), (5, iv k)] [])
    (fun k => i ≤ k ∧ k ≤ l.length ∧ ∀ j, i ≤ j → j < k → keptAt l i j) (fun k => l.length - k) i ⟨Nat.le_refl _, by omega, fun j h1 h2 => by omega⟩ ?_ ?_
  · refine Weak.list [] rfl (by rfl) ?_ .nil
    ((repeat' first | exact TLes.nil | refine TLes.cons (TLe.eq rfl) ?_); skip)
  rintro k ⟨hk1, hk2, hc⟩
  have hii : (i : Int).toNat = i := Int.toNat_natCast i
  have hkk : (k : Int).toNat = k := Int.toNat_natCast k
  (repeat' ((fail_if_success (show AWp _ _ _ (Code.region 4 _ _) _ _)); first | refine AWp_seq ?_ | (refine AWp_reg tok (by rfl) ?_; conv => whnf) | refine AWp_block ?_ | (refine AWp_skip ?_; conv => whnf) | (refine AWp_exit ?_; conv => whnf) | (refine AWp_ret ?_; conv => whnf) | refine AWp_cond rfl (fun hb => ?_) (fun hb => ?_)))
  · have hlt : k < l.length := by simp only [decide_eq_true_eq] at hb; omega
    clear hb
    ((repeat' first | (refine AWp_any tok mix (by rfl) ?_; conv => whnf) | (refine @And.intro (underG _ _ _ _) _ ?_ ?_; rotate_left; (conv => whnf); rotate_right)); all_goals (try ((guard_target = underG _ _ _ _); refine underG_none ?_; (all_goals (try simp only [underG, true_and, and_true, Bool.cond_true_left, Bool.cond_false_left, Bool.cond_true_right, Bool.cond_false_right, Bool.or_eq_true, Bool.and_eq_true, Bool.or_eq_false_iff, Bool.and_eq_false_iff, cond_true, cond_false, Bool.not_eq_eq_eq_not, Bool.not_true, Bool.not_false, decide_eq_true_eq, decide_eq_false_iff_not, Int.toNat_natCast, Nat.zero_add, Decidable.not_not, maxL, inn_iff] at *)); all_goals omega)))
    refine .inl ⟨_, _, _, uG (QC.fc (c_r17sets (l.getD (k : Int).toNat default) (l.getD (i : Int).toNat default).a) rfl), ?_⟩
    conv => whnf
    ((repeat' (refine @And.intro (underG _ _ _ _) _ ?_ ?_; rotate_left; (conv => whnf); rotate_right)); all_goals (try ((guard_target = underG _ _ _ _); ((refine underG_some ?_; intro hgd; (conv at hgd => whnf))); (all_goals (try simp only [underG, true_and, and_true, Bool.cond_true_left, Bool.cond_false_left, Bool.cond_true_right, Bool.cond_false_right, Bool.or_eq_true, Bool.and_eq_true, Bool.or_eq_false_iff, Bool.and_eq_false_iff, cond_true, cond_false, Bool.not_eq_eq_eq_not, Bool.not_true, Bool.not_false, decide_eq_true_eq, decide_eq_false_iff_not, Int.toNat_natCast, Nat.zero_add, Decidable.not_not, maxL, inn_iff] at *)); all_goals omega)))
    refine .inl ⟨_, _, _, uG (QC.fc (c_r17sets (l.getD (k : Int).toNat default) (l.getD (i : Int).toNat default).b) rfl), ?_⟩
    conv => whnf
    ((repeat' (refine @And.intro (underG _ _ _ _) _ ?_ ?_; rotate_left; (conv => whnf); rotate_right)); all_goals (try ((guard_target = underG _ _ _ _); ((refine underG_some ?_; intro hgd; (conv at hgd => whnf); (try simp (disch := omega) only [wrap64] at hgd))); (all_goals (try simp only [underG, true_and, and_true, Bool.cond_true_left, Bool.cond_false_left, Bool.cond_true_right, Bool.cond_false_right, Bool.or_eq_true, Bool.and_eq_true, Bool.or_eq_false_iff, Bool.and_eq_false_iff, cond_true, cond_false, Bool.not_eq_eq_eq_not, Bool.not_true, Bool.not_false, decide_eq_true_eq, decide_eq_false_iff_not, Int.toNat_natCast, Nat.zero_add, Decidable.not_not, maxL, inn_iff] at *)); all_goals omega)))
    refine .inl ⟨_, _, _, uG (QC.fc (c_r17sets (l.getD (k : Int).toNat default) (l.getD (i : Int).toNat default).dst) rfl), ?_⟩
    conv => whnf
    (repeat' first | refine AWp_seq ?_ | (refine AWp_reg tok (by rfl) ?_; conv => whnf) | (refine AWp_skip ?_; conv => whnf) | (refine AWp_ret ?_; conv => whnf) | refine AWp_cond rfl (fun hb => ?_) (fun hb => ?_))
    · refine ⟨_, rfl, Rel.bool ?_⟩
      symm; rw [decide_eq_false_iff_not]
      intro h
      have := h k hlt hk1
      unfold keptAt at this
      rw [hii, hkk] at hb
      simp [cond_eq_ite] at hb
      grind
    · refine ⟨k + 1, ⟨by omega, hlt, fun j h1 h2 => ?_⟩, by omega, ?_⟩
      · by_cases e : j = k
        · subst e
          unfold keptAt
          rw [hii, hkk] at hb
          simp [cond_eq_ite] at hb
          grind
        · exact hc j h1 (by omega)
      refine Weak.list [] rfl (by rfl) ?_ .nil
      ((repeat' first | exact TLes.nil | refine TLes.cons (TLe.eq rfl) ?_ | refine TLes.cons (TLe.int ?_) ?_); (all_goals first | ((try (simp only [underG, true_and, and_true, Bool.cond_true_left, Bool.cond_false_left, Bool.cond_true_right, Bool.cond_false_right, Bool.or_eq_true, Bool.and_eq_true, Bool.or_eq_false_iff, Bool.and_eq_false_iff, cond_true, cond_false, Bool.not_eq_eq_eq_not, Bool.not_true, Bool.not_false, decide_eq_true_eq, decide_eq_false_iff_not, Int.toNat_natCast, Nat.zero_add, Decidable.not_not, maxL, inn_iff] at *)); exact wrap64 (by omega) (by omega)) | skip))
  · have hkl : k = l.length := by simp only [decide_eq_false_iff_not] at hb; omega
    refine ⟨_, rfl, Rel.bool ?_⟩
    symm; rw [decide_eq_true_eq]
    exact fun j h1 h2 => hc j h2 (by omega)
theorem refL_snoc : ∀ (r l : List Ins) (x : Ins), refL l (r ++ [x]) = refL l r ++ [refX (refL l r) x]
  | [], l, x => rfl
  | y :: r, l, x => by simp only [List.cons_append, refL]; exact refL_snoc r _ x
theorem refL_len : ∀ (r l : List Ins), (refL l r).length = l.length + r.length
  | [], l => by simp [refL]
  | y :: r, l => by simp only [refL]; rw [refL_len r]; simp; omega
def refPre (l : List Ins) (i : Nat) : List Ins := refL [] (l.take i)
theorem refPre_len {l : List Ins} {i : Nat} (h : i ≤ l.length) : (refPre l i).length = i := by unfold refPre; rw [refL_len]; simp; omega
theorem refPre_succ {l : List Ins} {i : Nat} (h : i < l.length) : refPre l (i + 1) = refPre l i ++ [refX (refPre l i) (l.getD i default)] := by
  unfold refPre; rw [take_succ_getD default h, refL_snoc]
theorem c_r17Block (b : Block) : FC Try.prog 30 [.agg (encBlock b)] (.agg (encBlock (ref17B b))) := by
  refine FC_intro tok Try.func30 rfl (by decide +kernel) (Nat.le_of_ble_eq_true rfl) ?_
  refine AWp_facts 0 (fun hl => ?_)
  have hl0 : b.ins.length ≤ maxL := hl.2.2.2.2.2.1.1
  have hmx : maxL = 4294967296 := rfl
  clear hl
  (repeat' first | refine AWp_seq ?_ | (refine AWp_reg tok (by rfl) ?_; conv => whnf) | refine AWp_block ?_)
  refine AWp_loop (fun i : Nat => mkS [(1, .bp (1, 0, 0) 0), (2, .bp (2, 0, 0) 0), (3, .rs (3, 1, 0) 7 0 i), (4, iv i)]
      [((1, 0, 0), boxed (encBlock b)), ((2, 0, 0), boxed [.bool false, iv 0, .nsl, .bool false, .bool false, .nsl, iv 0, iv 0, iv 0, iv 0, .nsl, iv 0, iv 0, iv 0]), ((3, 1, 0), .row true 7 i (fun x => encIns ((refPre b.ins i).getD x default)))])
    (fun i => i ≤ b.ins.length) (fun i => b.ins.length - i) 0 (Nat.zero_le _) ?_ ?_
  · refine Weak.list [((1, 0, 0), .old (1, 0, 0), boxed (encBlock b)), ((2, 0, 0), .old (2, 0, 0), boxed [.bool false, iv 0, .nsl, .bool false, .bool false, .nsl, iv 0, iv 0, iv 0, iv 0, .nsl, iv 0, iv 0, iv 0]), ((3, 1, 0), .nil, .row true 7 0 (fun x => encIns ((refPre b.ins 0).getD x default)))] rfl (by rfl) ?_ (.old rfl (BLe.refl _) (.old rfl (BLe.refl _) (.new .nil)))
    ((repeat' first | exact TLes.nil | refine TLes.cons (TLe.eq rfl) ?_ | refine TLes.cons (TLe.nilL rfl ?_) ?_); (all_goals first | rfl | skip))
  intro i hi
  have hpl := refPre_len hi
  ((repeat' ((fail_if_success (show AWp _ _ _ (Code.region 6 _ _) _ _)); first | refine AWp_seq ?_ | (refine AWp_reg tok (by rfl) ?_; conv => whnf) | refine AWp_block ?_ | (refine AWp_skip ?_; conv => whnf) | (refine AWp_exit ?_; conv => whnf) | (refine AWp_ret ?_; conv => whnf) | refine AWp_cond rfl (fun hb => ?_) (fun hb => ?_) | (refine @And.intro (underG _ _ _ _) _ ?_ ?_; rotate_left; (conv => whnf); rotate_right))); all_goals (try ((guard_target = underG _ _ _ _); refine underG_none ?_; (all_goals (try simp only [underG, true_and, and_true, Bool.cond_true_left, Bool.cond_false_left, Bool.cond_true_right, Bool.cond_false_right, Bool.or_eq_true, Bool.and_eq_true, Bool.or_eq_false_iff, Bool.and_eq_false_iff, cond_true, cond_false, Bool.not_eq_eq_eq_not, Bool.not_true, Bool.not_false, decide_eq_true_eq, decide_eq_false_iff_not, Int.toNat_natCast, Nat.zero_add, Decidable.not_not, maxL, inn_iff] at *)); all_goals omega)))
  · have hlt : i < b.ins.length := by simp only [decide_eq_true_eq] at hb; omega
    clear hb
    have hii : (i : Int).toNat = i := Int.toNat_natCast i
    have hgen : ∃ x, b.ins.getD i default = x := ⟨_, rfl⟩
    obtain ⟨x, hx⟩ := hgen
    have hgen : ∃ L, refPre b.ins i = L := ⟨_, rfl⟩
    obtain ⟨L, hL⟩ := hgen
    have hsucc := refPre_succ hlt
    rw [hL, hx] at hsucc
    rw [hL] at hpl
    (repeat' first | (refine AWp_reg tok (by rfl) ?_; conv => whnf) | refine AWp_block ?_)
    refine AWp_loop (fun k : Nat => mkS [(1, .bp (1, 0, 0) 0), (2, .bp (2, 0, 0) 0), (3, .rs (3, 1, 0) 7 0 i), (4, iv i), (5, .bp (5, 0, 0) 0), (6, iv ((k : Int) - 1))]
        [((1, 0, 0), boxed (encBlock b)), ((2, 0, 0), boxed [.bool false, iv 0, .nsl, .bool false, .bool false, .nsl, iv 0, iv 0, iv 0, iv 0, .nsl, iv 0, iv 0, iv 0]), ((3, 1, 0), .row true 7 i (fun x => encIns (L.getD x default))), ((5, 0, 0), .row true 7 1 (fun _ => encIns x))])
      (fun k => k ≤ i ∧ findR L x i = findR L x k) (fun k => k) i ⟨Nat.le_refl _, rfl⟩ ?_ ?_
    · refine Weak.list [((1, 0, 0), .old (1, 0, 0), boxed (encBlock b)), ((2, 0, 0), .old (2, 0, 0), boxed [.bool false, iv 0, .nsl, .bool false, .bool false, .nsl, iv 0, iv 0, iv 0, iv 0, .nsl, iv 0, iv 0, iv 0]), ((3, 1, 0), .old (3, 1, 0), .row true 7 i (fun x => encIns (L.getD x default))), ((5, 0, 0), .old (5, 0, 0), .row true 7 1 (fun _ => encIns x))] rfl (by rfl) ?_ (.old rfl (BLe.refl _) (.old rfl (BLe.refl _) (.old rfl (BLe.rowW (Nat.le_refl _) (fun z _ => Wks.of (by rw [← hL]; rfl))) (.old rfl (BLe.rowW (Nat.le_refl _) (ltS (Wks.of (by rw [← hx]; rfl)) lt0)) .nil))))
      ((repeat' first | exact TLes.nil | refine TLes.cons (TLe.eq rfl) ?_ | refine TLes.cons (TLe.int ?_) ?_); (all_goals first | ((try (simp only [underG, true_and, and_true, Bool.cond_true_left, Bool.cond_false_left, Bool.cond_true_right, Bool.cond_false_right, Bool.or_eq_true, Bool.and_eq_true, Bool.or_eq_false_iff, Bool.and_eq_false_iff, cond_true, cond_false, Bool.not_eq_eq_eq_not, Bool.not_true, Bool.not_false, decide_eq_true_eq, decide_eq_false_iff_not, Int.toNat_natCast, Nat.zero_add, Decidable.not_not, maxL, inn_iff] at *)); exact wrap64 (by omega) (by omega)) | skip))
    rintro k ⟨hk, hf⟩
    ((repeat' ((fail_if_success (show AWp _ _ _ (Code.region 9 _ _) _ _)); first | refine AWp_seq ?_ | (refine AWp_reg tok (by rfl) ?_; conv => whnf) | refine AWp_block ?_ | (refine AWp_skip ?_; conv => whnf) | (refine AWp_exit ?_; conv => whnf) | refine AWp_cond rfl (fun hb => ?_) (fun hb => ?_) | (refine @And.intro (underG _ _ _ _) _ ?_ ?_; rotate_left; (conv => whnf); rotate_right))); all_goals (try ((guard_target = underG _ _ _ _); refine underG_none ?_; (first | refine And.intro (srcObl_rs rfl ?_) ?_ | skip); (all_goals (try simp only [underG, true_and, and_true, Bool.cond_true_left, Bool.cond_false_left, Bool.cond_true_right, Bool.cond_false_right, Bool.or_eq_true, Bool.and_eq_true, Bool.or_eq_false_iff, Bool.and_eq_false_iff, cond_true, cond_false, Bool.not_eq_eq_eq_not, Bool.not_true, Bool.not_false, decide_eq_true_eq, decide_eq_false_iff_not, Int.toNat_natCast, Nat.zero_add, Decidable.not_not, maxL, inn_iff] at *)); all_goals omega)))
    · have hk1 : 1 ≤ k := by simp only [decide_eq_true_eq] at hb; omega
      clear hb
      obtain ⟨j, rfl⟩ : ∃ j, k = j + 1 := ⟨k - 1, by omega⟩
      refine AWp_weak (Weak.list (tl := [(1, .bp (1, 0, 0) 0), (2, .bp (2, 0, 0) 0), (3, .rs (3, 1, 0) 7 0 i), (4, iv i), (5, .bp (5, 0, 0) 0), (6, iv j)]) [((1, 0, 0), .old (1, 0, 0), boxed (encBlock b)), ((2, 0, 0), .old (2, 0, 0), boxed [.bool false, iv 0, .nsl, .bool false, .bool false, .nsl, iv 0, iv 0, iv 0, iv 0, .nsl, iv 0, iv 0, iv 0]), ((3, 1, 0), .old (3, 1, 0), .row true 7 i (fun x => encIns (L.getD x default))), ((5, 0, 0), .old (5, 0, 0), .row true 7 1 (fun _ => encIns x))] rfl (by rfl) ?_ (.old rfl (BLe.refl _) (.old rfl (BLe.refl _) (.old rfl (BLe.refl _) (.old rfl (BLe.refl _) .nil))))) ?_
      · ((repeat' first | exact TLes.nil | refine TLes.cons (TLe.eq rfl) ?_ | refine TLes.cons (TLe.int ?_) ?_); (all_goals first | ((try (simp only [underG, true_and, and_true, Bool.cond_true_left, Bool.cond_false_left, Bool.cond_true_right, Bool.cond_false_right, Bool.or_eq_true, Bool.and_eq_true, Bool.or_eq_false_iff, Bool.and_eq_false_iff, cond_true, cond_false, Bool.not_eq_eq_eq_not, Bool.not_true, Bool.not_false, decide_eq_true_eq, decide_eq_false_iff_not, Int.toNat_natCast, Nat.zero_add, Decidable.not_not, maxL, inn_iff] at *)); omega) | skip))
      have hzj : 0 + (j : Int).toNat = j := by simp
      have hjj : (j : Int).toNat = j := Int.toNat_natCast j
      ((repeat' first | (refine AWp_any tok mix (by rfl) ?_; conv => whnf) | (refine @And.intro (underG _ _ _ _) _ ?_ ?_; rotate_left; (conv => whnf); rotate_right)); all_goals (try ((guard_target = underG _ _ _ _); refine underG_none ?_; (all_goals (try simp only [underG, true_and, and_true, Bool.cond_true_left, Bool.cond_false_left, Bool.cond_true_right, Bool.cond_false_right, Bool.or_eq_true, Bool.and_eq_true, Bool.or_eq_false_iff, Bool.and_eq_false_iff, cond_true, cond_false, Bool.not_eq_eq_eq_not, Bool.not_true, Bool.not_false, decide_eq_true_eq, decide_eq_false_iff_not, Int.toNat_natCast, Nat.zero_add, Decidable.not_not, maxL, inn_iff] at *)); all_goals omega)))
      refine .inl ⟨_, _, _, uG (QC.fc (c_r17alike (L.getD (0 + (j : Int).toNat) default) x) rfl), ?_⟩
      conv => whnf
      skip
      refine .inl ⟨_, _, _, uG (QC.sc (rd := [(3, 1, 0)]) (c_r17kept L j (by omega)) (.cons (.row rfl (memI_iff.1 rfl) rfl hpl.symm (fun _ _ => rfl)) (.cons (.imm rfl) .nil)) rfl), ?_⟩
      conv => whnf
      ((repeat' ((fail_if_success (show AWp _ _ _ (Code.region 11 _ _) _ _)); first | refine AWp_seq ?_ | (refine AWp_reg tok (by rfl) ?_; conv => whnf) | (refine AWp_any tok mix (by rfl) ?_; conv => whnf) | (refine AWp_skip ?_; conv => whnf) | (refine AWp_exit ?_; conv => whnf) | refine AWp_cond rfl (fun hb => ?_) (fun hb => ?_) | (refine @And.intro (underG _ _ _ _) _ ?_ ?_; rotate_left; (conv => whnf); rotate_right))); all_goals (try ((guard_target = underG _ _ _ _); refine underG_none ?_; (all_goals (try simp only [underG, true_and, and_true, Bool.cond_true_left, Bool.cond_false_left, Bool.cond_true_right, Bool.cond_false_right, Bool.or_eq_true, Bool.and_eq_true, Bool.or_eq_false_iff, Bool.and_eq_false_iff, cond_true, cond_false, Bool.not_eq_eq_eq_not, Bool.not_true, Bool.not_false, decide_eq_true_eq, decide_eq_false_iff_not, Int.toNat_natCast, Nat.zero_add, Decidable.not_not, maxL, inn_iff] at *)); all_goals omega)))
      · have hak : alikeP (L.getD j default) x ∧ keptP L j := by
          rw [hzj] at hb
          cases h1 : decide (alikeP (L.getD j default) x) with
          | false => rw [h1] at hb; cases hb
          | true => rw [h1] at hb; exact ⟨of_decide_eq_true h1, of_decide_eq_true hb⟩
        clear hb
        have hrx : refX L x = ⟨2, x.dst, (L.getD (0 + (j : Int).toNat) default).dst, 0, 0, 0, []⟩ := by
          unfold refX
          rw [hpl, hf]
          simp only [findR]
          rw [if_pos hak, hzj]
        refine AWp_weak (Weak.list (tl := [(1, .bp (1, 0, 0) 0), (2, .bp (2, 0, 0) 0), (3, .rs (3, 1, 0) 7 0 i), (4, iv i), (5, .bp (5, 0, 0) 0)]) [((1, 0, 0), .old (1, 0, 0), boxed (encBlock b)), ((2, 0, 0), .old (2, 0, 0), boxed [.bool false, iv 0, .nsl, .bool false, .bool false, .nsl, iv 0, iv 0, iv 0, iv 0, .nsl, iv 0, iv 0, iv 0]), ((3, 1, 0), .old (3, 1, 0), .row true 7 i (fun x => encIns (L.getD x default))), ((5, 0, 0), .old (5, 0, 0), .row true 7 1 (fun _ => encIns (refX L x)))] rfl (by rfl) ?_ (.old rfl (BLe.refl _) (.old rfl (BLe.refl _) (.old rfl (BLe.refl _) (.old rfl (BLe.rowW (Nat.le_refl _) (ltS ?_ lt0)) .nil))))) ?_
        · ((repeat' first | exact TLes.nil | refine TLes.cons (TLe.eq rfl) ?_); skip)
        · rw [hrx]
          exact .cons .refl (.cons .refl (.cons .refl (.cons .refl (.cons .refl (.cons .refl (.cons (.nsl rfl) .nil))))))
        have hrx : refX L x = refX L x := rfl
        ((repeat' first | (refine AWp_reg tok (by rfl) ?_; conv => whnf) | (refine @And.intro (underG _ _ _ _) _ ?_ ?_; rotate_left; (conv => whnf); rotate_right)); all_goals (try ((guard_target = underG _ _ _ _); refine underG_none ?_; (first | refine And.intro (srcObl_rs rfl ?_) ?_ | skip); (all_goals (try simp only [underG, true_and, and_true, Bool.cond_true_left, Bool.cond_false_left, Bool.cond_true_right, Bool.cond_false_right, Bool.or_eq_true, Bool.and_eq_true, Bool.or_eq_false_iff, Bool.and_eq_false_iff, cond_true, cond_false, Bool.not_eq_eq_eq_not, Bool.not_true, Bool.not_false, decide_eq_true_eq, decide_eq_false_iff_not, Int.toNat_natCast, Nat.zero_add, Decidable.not_not, maxL, inn_iff] at *)); all_goals omega)))
        refine ⟨i + 1, hlt, by omega, ?_⟩
        refine Weak.list [((1, 0, 0), .old (1, 0, 0), boxed (encBlock b)), ((2, 0, 0), .old (2, 0, 0), boxed [.bool false, iv 0, .nsl, .bool false, .bool false, .nsl, iv 0, iv 0, iv 0, iv 0, .nsl, iv 0, iv 0, iv 0]), ((3, 1, 0), .old (48, 0, 0), .row true 7 (i + 1) (fun x => encIns ((refPre b.ins (i + 1)).getD x default)))] rfl (by rfl) ?_ (.old rfl (BLe.refl _) (.old rfl (BLe.refl _) (.old rfl (BLe.rowW (Nat.le_refl _) (fun z hz => Wks.of ?_)) .nil)))
        · ((repeat' first | exact TLes.nil | refine TLes.cons (TLe.eq rfl) ?_ | refine TLes.cons (TLe.int ?_) ?_); (all_goals first | ((try (simp only [underG, true_and, and_true, Bool.cond_true_left, Bool.cond_false_left, Bool.cond_true_right, Bool.cond_false_right, Bool.or_eq_true, Bool.and_eq_true, Bool.or_eq_false_iff, Bool.and_eq_false_iff, cond_true, cond_false, Bool.not_eq_eq_eq_not, Bool.not_true, Bool.not_false, decide_eq_true_eq, decide_eq_false_iff_not, Int.toNat_natCast, Nat.zero_add, Decidable.not_not, maxL, inn_iff] at *)); exact wrap64 (by omega) (by omega)) | skip))
        · rw [hsucc, hrx]
          exact app_snoc encIns default 7 hpl.symm (fun q _ => rfl) rfl rfl hz
      · have hak : ¬ (alikeP (L.getD j default) x ∧ keptP L j) := by
          rw [hzj] at hb
          rintro ⟨h1, h2⟩
          rw [decide_eq_true h1, decide_eq_true h2] at hb; cases hb
        clear hb
        refine ⟨j, ⟨by omega, ?_⟩, by omega, ?_⟩
        · rw [hf]; simp only [findR]; rw [if_neg hak]
        refine Weak.list [((1, 0, 0), .old (1, 0, 0), boxed (encBlock b)), ((2, 0, 0), .old (2, 0, 0), boxed [.bool false, iv 0, .nsl, .bool false, .bool false, .nsl, iv 0, iv 0, iv 0, iv 0, .nsl, iv 0, iv 0, iv 0]), ((3, 1, 0), .old (3, 1, 0), .row true 7 i (fun x => encIns (L.getD x default))), ((5, 0, 0), .old (5, 0, 0), .row true 7 1 (fun _ => encIns x))] rfl (by rfl) ?_ (.old rfl (BLe.refl _) (.old rfl (BLe.refl _) (.old rfl (BLe.refl _) (.old rfl (BLe.refl _) .nil))))
        ((repeat' first | exact TLes.nil | refine TLes.cons (TLe.eq rfl) ?_ | refine TLes.cons (TLe.int ?_) ?_); (all_goals first | ((try (simp only [underG, true_and, and_true, Bool.cond_true_left, Bool.cond_false_left, Bool.cond_true_right, Bool.cond_false_right, Bool.or_eq_true, Bool.and_eq_true, Bool.or_eq_false_iff, Bool.and_eq_false_iff, cond_true, cond_false, Bool.not_eq_eq_eq_not, Bool.not_true, Bool.not_false, decide_eq_true_eq, decide_eq_false_iff_not, Int.toNat_natCast, Nat.zero_add, Decidable.not_not, maxL, inn_iff] at *)); exact wrap64 (by omega) (by omega)) | skip))
    · have hk0 : k = 0 := by simp only [decide_eq_false_iff_not] at hb; omega
      clear hb
      subst hk0
      have hrx : refX L x = x := by
        unfold refX
        rw [hpl, hf]; rfl
      skip
      refine ⟨i + 1, hlt, by omega, ?_⟩
      refine Weak.list [((1, 0, 0), .old (1, 0, 0), boxed (encBlock b)), ((2, 0, 0), .old (2, 0, 0), boxed [.bool false, iv 0, .nsl, .bool false, .bool false, .nsl, iv 0, iv 0, iv 0, iv 0, .nsl, iv 0, iv 0, iv 0]), ((3, 1, 0), .old (48, 0, 0), .row true 7 (i + 1) (fun x => encIns ((refPre b.ins (i + 1)).getD x default)))] rfl (by rfl) ?_ (.old rfl (BLe.refl _) (.old rfl (BLe.refl _) (.old rfl (BLe.rowW (Nat.le_refl _) (fun z hz => Wks.of ?_)) .nil)))
      · ((repeat' first | exact TLes.nil | refine TLes.cons (TLe.eq rfl) ?_ | refine TLes.cons (TLe.int ?_) ?_); (all_goals first | ((try (simp only [underG, true_and, and_true, Bool.cond_true_left, Bool.cond_false_left, Bool.cond_true_right, Bool.cond_false_right, Bool.or_eq_true, Bool.and_eq_true, Bool.or_eq_false_iff, Bool.and_eq_false_iff, cond_true, cond_false, Bool.not_eq_eq_eq_not, Bool.not_true, Bool.not_false, decide_eq_true_eq, decide_eq_false_iff_not, Int.toNat_natCast, Nat.zero_add, Decidable.not_not, maxL, inn_iff] at *)); exact wrap64 (by omega) (by omega)) | skip))
      · rw [hsucc, hrx]
        exact app_snoc encIns default 7 hpl.symm (fun q _ => rfl) rfl rfl hz
  · have hil : i = b.ins.length := by simp only [decide_eq_false_iff_not] at hb; omega
    clear hb
    subst hil
    skip
    refine ⟨_, rfl, Rel.agg (.cons (Rel.imm rfl) (.cons (Rel.imm rfl) (.cons (Rel.imm rfl) (.cons (Rel.imm rfl) (.cons (Rel.imm rfl) (.cons (Rel.row rfl rfl ?_ (fun z _ => ?_)) (Rels.imm rfl)))))))⟩
    · simp [ref17B, refL_len]
    · simp [ref17B, refPre]
end Go.Proofs.Ytmanpbgaihdalaa
namespace Go.Proofs.Ytmanpbgaihdalaa
open Go Dv
set_option maxRecDepth 10000
set_option linter.unusedSimpArgs false
/-- The functions before number n gone through, and the first k blocks of that one. -/
def curS (B : Block → Block) (l : List Func) (n k : Nat) : List Func := (List.range l.length).map fun j => if j < n then mapF B (l.getD j default) (l.getD j default).blocks.length else if j = n then mapF B (l.getD j default) k else l.getD j default
theorem curS_len {B : Block → Block} (l : List Func) (n k : Nat) : (curS B l n k).length = l.length := by simp [curS]
theorem curS_at {B : Block → Block} {l : List Func} {n k q : Nat} (h : q < l.length) : (curS B l n k).getD q default = if q < n then mapF B (l.getD q default) (l.getD q default).blocks.length else if q = n then mapF B (l.getD q default) k else l.getD q default := range_getD _ _ h
theorem curS_n {B : Block → Block} {l : List Func} {n k : Nat} (h : n < l.length) : (curS B l n k).getD n default = mapF B (l.getD n default) k := by rw [curS_at h, if_neg (Nat.lt_irrefl n), if_pos rfl]
theorem mapB_zero {B : Block → Block} (l : List Block) : mapB B l 0 = l := by
  refine list_ext_getD default (by simp [mapB]) (fun i hi => ?_)
  rw [mapB_len] at hi
  rw [mapB_at hi, if_neg (Nat.not_lt_zero i)]
theorem mapF_zero {B : Block → Block} (f : Func) : mapF B f 0 = f := by unfold mapF; rw [mapB_zero]
theorem curS_zero {B : Block → Block} (l : List Func) (n : Nat) : curS B l n 0 = curL B l n := by
  refine list_ext_getD default (by simp [curS, curL]) (fun i hi => ?_)
  rw [curS_len] at hi
  rw [curS_at hi, curL_at hi, mapF_zero]
  split
  · rfl
  · split <;> rfl
theorem curS_full {B : Block → Block} {l : List Func} {n : Nat} : curS B l n (l.getD n default).blocks.length = curS B l (n + 1) 0 := by
  refine list_ext_getD default (by simp [curS]) (fun i hi => ?_)
  rw [curS_len] at hi
  rw [curS_at hi, curS_at hi, mapF_zero]
  by_cases h1 : i < n
  · rw [if_pos h1, if_pos (by omega)]
  · rw [if_neg h1]
    by_cases h2 : i = n
    · subst h2; rw [if_pos rfl, if_pos (by omega)]
    · rw [if_neg h2, if_neg (by omega)]; split <;> rfl
theorem setB_cur {B : Block → Block} {l : List Func} {n k : Nat} (hn : n < l.length) (hk : k < (l.getD n default).blocks.length) : setB ⟨curS B l n k⟩ n k (B ((l.getD n default).blocks.getD k default)) = ⟨curS B l n (k + 1)⟩ := by
  unfold setB
  congr 1
  refine list_ext_getD default (by simp [curS]) (fun i hi => ?_)
  simp only [List.length_set, curS_len] at hi
  simp only [getD_set]
  rw [curS_len, curS_n hn]
  by_cases h2 : n = i
  · subst h2
    rw [if_pos ⟨rfl, hn⟩, curS_n hn]
    simp only [mapF]
    congr 1
    refine list_ext_getD default (by simp [mapB]) (fun q hq => ?_)
    simp only [List.length_set, mapB_len] at hq
    rw [getD_set, mapB_len, mapB_at hq, mapB_at hq]
    by_cases h3 : k = q
    · subst h3; rw [if_pos ⟨rfl, hk⟩, if_pos (by omega)]
    · rw [if_neg (fun e => h3 e.1)]
      by_cases h4 : q < k
      · rw [if_pos h4, if_pos (by omega)]
      · rw [if_neg h4, if_neg (by omega)]
  · rw [if_neg (fun e => h2 e.1), curS_at hi, curS_at hi]
    by_cases h1 : i < n
    · rw [if_pos h1, if_pos h1]
    · rw [if_neg h1, if_neg h1, if_neg (fun e => h2 e.symm), if_neg (fun e => h2 e.symm)]

theorem c_r17Module (m : Module) : FC Try.prog 31 [.agg (encMod m)] (.agg (encMod (passM ref17B m))) := by
  obtain ⟨fs⟩ := m
  refine FC_intro tok Try.func31 rfl (by decide +kernel) (Nat.le_of_ble_eq_true rfl) ?_
  refine AWp_facts 0 (fun hl => ?_)
  have hl0 : fs.length ≤ maxL := hl.1.1
  have hmx : maxL = 4294967296 := rfl
  have hl1 : ∀ i, i < fs.length → (fs.getD i default).blocks.length ≤ maxL := fun i hi => (hl.1.2 i hi).2.2.1.1
  clear hl
  (repeat' first | refine AWp_seq ?_ | (refine AWp_reg tok (by rfl) ?_; conv => whnf) | refine AWp_block ?_)
  refine AWp_loop (fun n : Nat => mkS [(1, .bp (1, 0, 0) 0), (2, .bp (2, 0, 0) 0), (3, iv n)] [((1, 0, 0), .row true 1 1 (fun _ => [funcss (curS ref17B fs n 0)])), ((2, 0, 0), boxed [.nsl])])
    (fun n => n ≤ fs.length) (fun n => fs.length - n) 0 (Nat.zero_le _) ?_ ?_
  · refine Weak.list [((1, 0, 0), .old (1, 0, 0), .row true 1 1 (fun _ => [funcss (curS ref17B fs 0 0)])), ((2, 0, 0), .old (2, 0, 0), boxed [.nsl])] rfl (by rfl) ?_ (.old rfl (BLe.rowW (Nat.le_refl _) (ltS (Wks.of ?_) lt0)) (.old rfl (BLe.refl _) .nil))
    · ((repeat' first | exact TLes.nil | refine TLes.cons (TLe.eq rfl) ?_); skip)
    · rw [curS_zero, curL_zero]; rfl
  intro n hn
  have hsl := curS_len (B := ref17B) fs n 0
  (repeat' ((fail_if_success (show AWp _ _ _ (Code.region 5 _ _) _ _)); first | refine AWp_seq ?_ | (refine AWp_reg tok (by rfl) ?_; conv => whnf) | refine AWp_block ?_ | (refine AWp_skip ?_; conv => whnf) | (refine AWp_exit ?_; conv => whnf) | (refine AWp_ret ?_; conv => whnf) | refine AWp_cond rfl (fun hb => ?_) (fun hb => ?_)))
  · have hlt : n < fs.length := by simp only [decide_eq_true_eq] at hb; rw [hsl] at hb; omega
    clear hb
    have hbl := hl1 n hlt
    refine AWp_loop (fun k : Nat => mkS [(1, .bp (1, 0, 0) 0), (2, .bp (2, 0, 0) 0), (3, iv n), (4, iv k)] [((1, 0, 0), .row true 1 1 (fun _ => [funcss (curS ref17B fs n k)])), ((2, 0, 0), boxed [.nsl])])
      (fun k => k ≤ (fs.getD n default).blocks.length) (fun k => (fs.getD n default).blocks.length - k) 0 (Nat.zero_le _) ?_ ?_
    · refine Weak.list [((1, 0, 0), .old (1, 0, 0), .row true 1 1 (fun _ => [funcss (curS ref17B fs n 0)])), ((2, 0, 0), .old (2, 0, 0), boxed [.nsl])] rfl (by rfl) ?_ (.old rfl (BLe.refl _) (.old rfl (BLe.refl _) .nil))
      ((repeat' first | exact TLes.nil | refine TLes.cons (TLe.eq rfl) ?_); skip)
    intro k hk
    have hsk := curS_len (B := ref17B) fs n k
    have hsb : ((curS ref17B fs n k).getD n default).blocks.length = (fs.getD n default).blocks.length := by rw [curS_n hlt]; simp [mapF, mapB_len]
    have hnn : (n : Int).toNat = n := Int.toNat_natCast n
    have hkk : (k : Int).toNat = k := Int.toNat_natCast k
    ((repeat' ((fail_if_success (show AWp _ _ _ (Code.region 7 _ _) _ _)); first | refine AWp_seq ?_ | (refine AWp_reg tok (by rfl) ?_; conv => whnf) | refine AWp_block ?_ | (refine AWp_skip ?_; conv => whnf) | (refine AWp_exit ?_; conv => whnf) | refine AWp_cond rfl (fun hb => ?_) (fun hb => ?_) | (refine @And.intro (underG _ _ _ _) _ ?_ ?_; rotate_left; (conv => whnf); rotate_right))); all_goals (try ((guard_target = underG _ _ _ _); refine underG_none ?_; (all_goals (try simp only [underG, true_and, and_true, Bool.cond_true_left, Bool.cond_false_left, Bool.cond_true_right, Bool.cond_false_right, Bool.or_eq_true, Bool.and_eq_true, Bool.or_eq_false_iff, Bool.and_eq_false_iff, cond_true, cond_false, Bool.not_eq_eq_eq_not, Bool.not_true, Bool.not_false, decide_eq_true_eq, decide_eq_false_iff_not, Int.toNat_natCast, Nat.zero_add, Decidable.not_not, maxL, inn_iff] at *)); all_goals omega)))
    · have hkl : k < (fs.getD n default).blocks.length := by simp only [decide_eq_true_eq] at hb; rw [hnn, hsb] at hb; omega
      clear hb
      ((repeat' first | (refine AWp_any tok mix (by rfl) ?_; conv => whnf) | (refine @And.intro (underG _ _ _ _) _ ?_ ?_; rotate_left; (conv => whnf); rotate_right)); all_goals (try ((guard_target = underG _ _ _ _); refine underG_none ?_; (all_goals (try simp only [underG, true_and, and_true, Bool.cond_true_left, Bool.cond_false_left, Bool.cond_true_right, Bool.cond_false_right, Bool.or_eq_true, Bool.and_eq_true, Bool.or_eq_false_iff, Bool.and_eq_false_iff, cond_true, cond_false, Bool.not_eq_eq_eq_not, Bool.not_true, Bool.not_false, decide_eq_true_eq, decide_eq_false_iff_not, Int.toNat_natCast, Nat.zero_add, Decidable.not_not, maxL, inn_iff] at *)); all_goals omega)))
      refine .inl ⟨_, _, _, uG (QC.fc (c_r17Block (((curS ref17B fs n k).getD (n : Int).toNat default).blocks.getD (k : Int).toNat default)) rfl), ?_⟩
      conv => whnf
      skip
      refine .inl ⟨_, _, _, uG (QC.fc (c_With ⟨curS ref17B fs n k⟩ n k (ref17B (((curS ref17B fs n k).getD (n : Int).toNat default).blocks.getD (k : Int).toNat default)) (by rw [curS_len]; exact hlt) (by rw [hsb]; exact hkl)) rfl), ?_⟩
      conv => whnf
      (repeat' (refine AWp_reg tok (by rfl) ?_; conv => whnf))
      refine ⟨k + 1, hkl, by omega, ?_⟩
      refine Weak.list [((1, 0, 0), .old (1, 0, 0), .row true 1 1 (fun _ => [funcss (curS ref17B fs n (k + 1))])), ((2, 0, 0), .old (2, 0, 0), boxed [.nsl])] rfl (by rfl) ?_ (.old rfl (BLe.rowW (Nat.le_refl _) (ltS (Wks.of ?_) lt0)) (.old rfl (BLe.refl _) .nil))
      · ((repeat' first | exact TLes.nil | refine TLes.cons (TLe.eq rfl) ?_ | refine TLes.cons (TLe.int ?_) ?_); (all_goals first | ((try (simp only [underG, true_and, and_true, Bool.cond_true_left, Bool.cond_false_left, Bool.cond_true_right, Bool.cond_false_right, Bool.or_eq_true, Bool.and_eq_true, Bool.or_eq_false_iff, Bool.and_eq_false_iff, cond_true, cond_false, Bool.not_eq_eq_eq_not, Bool.not_true, Bool.not_false, decide_eq_true_eq, decide_eq_false_iff_not, Int.toNat_natCast, Nat.zero_add, Decidable.not_not, maxL, inn_iff] at *)); exact wrap64 (by omega) (by omega)) | skip))
      · show [funcss (setB ⟨curS ref17B fs n k⟩ n k (ref17B (((curS ref17B fs n k).getD (n : Int).toNat default).blocks.getD (k : Int).toNat default))).funcs] = _
        rw [hnn, hkk, curS_n hlt]
        simp only [mapF]
        rw [mapB_at hkl, if_neg (Nat.lt_irrefl k), setB_cur hlt hkl]
    · have hkl : k = (fs.getD n default).blocks.length := by simp only [decide_eq_false_iff_not] at hb; rw [hnn, hsb] at hb; omega
      clear hb
      subst hkl
      refine ⟨n + 1, hlt, by omega, ?_⟩
      refine Weak.list [((1, 0, 0), .old (1, 0, 0), .row true 1 1 (fun _ => [funcss (curS ref17B fs (n + 1) 0)])), ((2, 0, 0), .old (2, 0, 0), boxed [.nsl])] rfl (by rfl) ?_ (.old rfl (BLe.rowW (Nat.le_refl _) (ltS (Wks.of ?_) lt0)) (.old rfl (BLe.refl _) .nil))
      · ((repeat' first | exact TLes.nil | refine TLes.cons (TLe.eq rfl) ?_ | refine TLes.cons (TLe.int ?_) ?_); (all_goals first | ((try (simp only [underG, true_and, and_true, Bool.cond_true_left, Bool.cond_false_left, Bool.cond_true_right, Bool.cond_false_right, Bool.or_eq_true, Bool.and_eq_true, Bool.or_eq_false_iff, Bool.and_eq_false_iff, cond_true, cond_false, Bool.not_eq_eq_eq_not, Bool.not_true, Bool.not_false, decide_eq_true_eq, decide_eq_false_iff_not, Int.toNat_natCast, Nat.zero_add, Decidable.not_not, maxL, inn_iff] at *)); exact wrap64 (by omega) (by omega)) | skip))
      · show [funcss (curS ref17B fs n (fs.getD n default).blocks.length)] = _
        rw [curS_full]
  · have hnl : n = fs.length := by simp only [decide_eq_false_iff_not] at hb; rw [hsl] at hb; omega
    subst hnl
    refine ⟨_, rfl, Rel.agg ?_⟩
    rw [show encMod (passM ref17B ⟨fs⟩) = [funcss (curS ref17B fs fs.length 0)] from by rw [curS_zero, curL_all]; rfl]
    exact Rels.imm rfl
end Go.Proofs.Ytmanpbgaihdalaa
namespace Go.Proofs.Ytmanpbgaihdalaa
open Go Dv
set_option maxRecDepth 10000
set_option linter.unusedSimpArgs false
/-! fold: the program's map is the reference's look backwards. -/
def aheadN (l : List Ins) (p : Int) : Nat → Int × Bool
  | 0 => (0, false)
  | k + 1 => if setsP (l.getD k default) p then ((l.getD k default).k, decide ((l.getD k default).op = 1)) else aheadN l p k
def aheadL (l : List Ins) (p : Int) : Int × Bool := aheadN l p l.length
def ref16X (l : List Ins) (x : Ins) : Ins := if (2 ≤ x.op ∧ x.op ≤ 8) ∧ (aheadL l x.a).2 = true ∧ ((aheadL l x.b).2 = true ∨ x.op = 2) ∧ (doW x.op (aheadL l x.a).1 (aheadL l x.b).1).2 = true then ⟨1, x.dst, 0, 0, (doW x.op (aheadL l x.a).1 (aheadL l x.b).1).1, 0, []⟩ else x
def refK : List Ins → List Ins → List Ins
  | l, [] => l
  | l, x :: r => refK (l ++ [ref16X l x]) r
def ref16E (l : List Ins) (e : End) : End := if e.kind = 3 ∧ (aheadL l e.a).2 = true then ⟨2, 0, 0, 0, [], if (aheadL l e.a).1 ≠ 0 then e.to else e.els, 0, 0⟩ else e
def ref16B (b : Block) : Block := { b with ins := refK [] b.ins, fin := ref16E (refK [] b.ins) b.fin }
theorem aheadN_old {l : List Ins} {y : Ins} {p : Int} : ∀ {k : Nat}, k ≤ l.length → aheadN (l ++ [y]) p k = aheadN l p k
  | 0, _ => rfl
  | k + 1, h => by
      simp only [aheadN]
      rw [snoc_lt (by omega), aheadN_old (by omega)]
theorem aheadL_snoc (l : List Ins) (y : Ins) (p : Int) : aheadL (l ++ [y]) p = if setsP y p then (y.k, decide (y.op = 1)) else aheadL l p := by
  unfold aheadL
  rw [show (l ++ [y]).length = l.length + 1 from by simp]
  simp only [aheadN]
  rw [snoc_eq, aheadN_old (Nat.le_refl _)]
structure KInv (l : List Ins) (m : List (List Int × Int)) : Prop where
  nd : (m.map (·.1)).Nodup
  eq : ∀ p v, mlook m [p] = some v ↔ aheadL l p = (v, true)
theorem KInv.nil : KInv [] [] := ⟨List.nodup_nil, fun p v => by simp [mlook, aheadL, aheadN]⟩
theorem KInv.none {l : List Ins} {m : List (List Int × Int)} (h : KInv l m) (p : Int) : mlook m [p] = none ↔ (aheadL l p).2 = false := by
  cases hm : mlook m [p] with
  | none =>
    cases hq : aheadL l p with
    | mk v b =>
      cases b with
      | false => simp
      | true => have := (h.eq p v).2 hq; rw [hm] at this; cases this
  | some v => have := (h.eq p v).1 hm; rw [this]; simp
theorem mdel_keys {m : List (List Int × Int)} {k : List Int} (hn : (m.map (·.1)).Nodup) : ((mdel m k).map (·.1)).Nodup := by
  rw [mdel_filter k hn]
  exact (List.Sublist.map _ List.filter_sublist).nodup hn
theorem mlook_mdel {m : List (List Int × Int)} (hn : (m.map (·.1)).Nodup) {k k' : List Int} {v : Int} : mlook (mdel m k) k' = some v ↔ k' ≠ k ∧ mlook m k' = some v := by
  have hn2 := mdel_keys (k := k) hn
  constructor
  · intro h
    have := mlook_mem h
    rw [mdel_filter k hn, List.mem_filter] at this
    exact ⟨by simpa using this.2, mem_mlook hn this.1⟩
  · rintro ⟨h1, h2⟩
    refine mem_mlook hn2 ?_
    rw [mdel_filter k hn, List.mem_filter]
    exact ⟨mlook_mem h2, by simpa using h1⟩
theorem KInv.step {l : List Ins} {m : List (List Int × Int)} (h : KInv l m) (y : Ins) : KInv (l ++ [y]) (noteW m y) := by
  unfold noteW
  by_cases h1 : y.op = 10 ∨ y.op = 12
  · rw [if_pos h1]
    refine ⟨h.nd, fun p v => ?_⟩
    rw [aheadL_snoc, if_neg (fun e => by unfold setsP at e; omega)]
    exact h.eq p v
  · rw [if_neg h1]
    have hs : ∀ p, setsP y p ↔ y.dst = p := fun p => by unfold setsP; omega
    by_cases h2 : y.op = 1
    · rw [if_pos h2]
      refine ⟨mput_keys h.nd, fun p v => ?_⟩
      rw [mlook_mput, aheadL_snoc]
      by_cases h3 : y.dst = p
      · rw [if_pos (by rw [h3]), if_pos ((hs p).2 h3)]; simp [h2]
      · rw [if_neg (fun e => h3 (by simpa using e)), if_neg (fun e => h3 ((hs p).1 e))]
        exact h.eq p v
    · rw [if_neg h2]
      refine ⟨mdel_keys h.nd, fun p v => ?_⟩
      rw [mlook_mdel h.nd, aheadL_snoc]
      by_cases h3 : y.dst = p
      · rw [if_pos ((hs p).2 h3)]; simp [h2, h3]
      · rw [if_neg (fun e => h3 ((hs p).1 e))]
        constructor
        · rintro ⟨_, h4⟩; exact (h.eq p v).1 h4
        · intro h4; exact ⟨fun e => h3 (by simpa using e.symm), (h.eq p v).2 h4⟩
theorem pureO_iff {op : Int} : pureO op = true ↔ 2 ≤ op ∧ op ≤ 8 := by
  unfold pureO; cases h : decide (2 ≤ op) <;> simp at h ⊢ <;> omega
theorem ref16X_eq {l : List Ins} {m : List (List Int × Int)} (h : KInv l m) (x : Ins) : ref16X l x = foldY m x := by
  unfold ref16X foldY ansW
  cases ha : mlook m [x.a] with
  | none =>
    have := (h.none x.a).1 ha
    rw [if_neg (fun e => by rw [this] at e; exact absurd e.2.1 (by simp))]
    simp
  | some a =>
    have hqa := (h.eq x.a a).1 ha
    rw [hqa]
    by_cases hp : 2 ≤ x.op ∧ x.op ≤ 8
    · simp only [pureO_iff.2 hp, if_true]
      by_cases ht : x.op = 2
      · have hnt : twoO x.op = false := by rw [Bool.eq_false_iff]; intro e; rw [twoO_iff] at e; omega
        simp only [hnt, Bool.false_eq_true, if_false]
        have hd : ∀ c, doW x.op a c = (a, true) := fun c => by simp [doW, ht]
        rw [hd, hd, if_pos ⟨hp, by trivial, .inr ht, by trivial⟩]; simp
      · have hnt : twoO x.op = true := twoO_iff.2 (by omega)
        simp only [hnt, if_true]
        cases hb : mlook m [x.b] with
        | none =>
          have := (h.none x.b).1 hb
          rw [if_neg (fun e => by rw [this] at e; rcases e.2.2.1 with e1 | e1; (cases e1); exact ht e1)]
          simp
        | some b =>
          have hqb := (h.eq x.b b).1 hb
          rw [hqb]
          by_cases hw : (doW x.op a b).2 = true
          · rw [if_pos ⟨hp, by trivial, .inl (by trivial), hw⟩]; simp [hw]
          · rw [if_neg (fun e => hw e.2.2.2)]; simp [hw]
    · have hnp : pureO x.op = false := by rw [Bool.eq_false_iff]; intro e; exact hp (pureO_iff.1 e)
      rw [if_neg (fun e => hp e.1)]
      simp [hnp]
theorem refK_eq : ∀ (r l : List Ins) (m : List (List Int × Int)), KInv l m → refK l r = l ++ (foldIns m r).1 ∧ KInv (refK l r) (foldIns m r).2
  | [], l, m, h => by simp [refK, foldIns, h]
  | x :: r, l, m, h => by
      simp only [refK, foldIns]
      rw [ref16X_eq h]
      obtain ⟨h1, h2⟩ := refK_eq r _ _ (h.step (foldY m x))
      exact ⟨by rw [h1]; simp, h2⟩
theorem ref16B_eq (b : Block) : ref16B b = foldBlock b := by
  unfold ref16B foldBlock
  obtain ⟨h1, h2⟩ := refK_eq b.ins [] [] KInv.nil
  have he : ref16E (refK [] b.ins) b.fin = foldEnd (foldIns [] b.ins).2 b.fin := by
    unfold ref16E foldEnd
    cases hm : mlook (foldIns [] b.ins).2 [b.fin.a] with
    | none => rw [if_neg (fun e => by have := (h2.none b.fin.a).1 hm; rw [this] at e; cases e.2)]
    | some v =>
      have := (h2.eq b.fin.a v).1 hm
      rw [this]
      by_cases hk : b.fin.kind = 3
      · rw [if_pos ⟨hk, rfl⟩]; simp [hk]
        try split <;> simp_all
      · rw [if_neg (fun e => hk e.1)]; simp [hk]
  rw [he, h1]; rfl
end Go.Proofs.Ytmanpbgaihdalaa
namespace Go.Proofs.Ytmanpbgaihdalaa
open Go Dv
set_option maxRecDepth 10000
set_option linter.unusedSimpArgs false
theorem c_r16sets (x : Ins) (p : Int) : FC Try.prog 125 [.agg (encIns x), iv p] (.bool (decide (setsP x p))) := by
  refine FC_intro tok Try.func125 rfl (by decide +kernel) (Nat.le_of_ble_eq_true rfl) ?_
  (repeat' first | refine AWp_seq ?_ | (refine AWp_reg tok (by rfl) ?_; conv => whnf) | (refine AWp_ret ?_; conv => whnf))
  refine ⟨_, rfl, Rel.bool ?_⟩
  rw [Bool.eq_iff_iff, decide_eq_true_eq]
  simp [setsP, and_assoc]
theorem c_ahead (l : List Ins) (p : Int) : FC Try.prog 90 [inss l, iv p] (.tup [.int .u16 (aheadL l p).1, .bool (aheadL l p).2]) := by
  refine FC_intro tok Try.func90 rfl (by decide +kernel) (Nat.le_of_ble_eq_true rfl) ?_
  refine AWp_facts 0 (fun hl => ?_)
  have hl0 : l.length ≤ maxL := hl.1
  have hmx : maxL = 4294967296 := rfl
  clear hl
  (repeat' first | refine AWp_seq ?_ | (refine AWp_reg tok (by rfl) ?_; conv => whnf) | refine AWp_block ?_)
  refine AWp_loop (fun k : Nat => mkS [(0, inss l), (1, iv p), (4, .int .u16 0), (5, .bool false), (6, iv ((k : Int) - 1))] [])
    (fun k => k ≤ l.length ∧ aheadL l p = aheadN l p k) (fun k => k) l.length ⟨Nat.le_refl _, rfl⟩ ?_ ?_
  · refine Weak.list [] rfl (by rfl) ?_ .nil
    ((repeat' first | exact TLes.nil | refine TLes.cons (TLe.eq rfl) ?_ | refine TLes.cons (TLe.int ?_) ?_); (all_goals first | ((try (simp only [underG, true_and, and_true, Bool.cond_true_left, Bool.cond_false_left, Bool.cond_true_right, Bool.cond_false_right, Bool.or_eq_true, Bool.and_eq_true, Bool.or_eq_false_iff, Bool.and_eq_false_iff, cond_true, cond_false, Bool.not_eq_eq_eq_not, Bool.not_true, Bool.not_false, decide_eq_true_eq, decide_eq_false_iff_not, Int.toNat_natCast, Nat.zero_add, Decidable.not_not, maxL, inn_iff] at *)); exact wrap64 (by omega) (by omega)) | skip))
  rintro k ⟨hk, hf⟩
  (repeat' ((fail_if_success (show AWp _ _ _ (Code.region 4 _ _) _ _)); first | refine AWp_seq ?_ | (refine AWp_reg tok (by rfl) ?_; conv => whnf) | refine AWp_block ?_ | (refine AWp_skip ?_; conv => whnf) | (refine AWp_exit ?_; conv => whnf) | (refine AWp_ret ?_; conv => whnf) | refine AWp_cond rfl (fun hb => ?_) (fun hb => ?_)))
  · have hk1 : 1 ≤ k := by simp only [decide_eq_true_eq] at hb; omega
    clear hb
    obtain ⟨j, rfl⟩ : ∃ j, k = j + 1 := ⟨k - 1, by omega⟩
    refine AWp_weak (Weak.list (tl := [(0, inss l), (1, iv p), (4, .int .u16 0), (5, .bool false), (6, iv j)]) [] rfl (by rfl) ?_ .nil) ?_
    · ((repeat' first | exact TLes.nil | refine TLes.cons (TLe.eq rfl) ?_ | refine TLes.cons (TLe.int ?_) ?_); (all_goals first | ((try (simp only [underG, true_and, and_true, Bool.cond_true_left, Bool.cond_false_left, Bool.cond_true_right, Bool.cond_false_right, Bool.or_eq_true, Bool.and_eq_true, Bool.or_eq_false_iff, Bool.and_eq_false_iff, cond_true, cond_false, Bool.not_eq_eq_eq_not, Bool.not_true, Bool.not_false, decide_eq_true_eq, decide_eq_false_iff_not, Int.toNat_natCast, Nat.zero_add, Decidable.not_not, maxL, inn_iff] at *)); omega) | skip))
    have hjj : (j : Int).toNat = j := Int.toNat_natCast j
    ((repeat' first | (refine AWp_reg tok (by rfl) ?_; conv => whnf) | (refine @And.intro (underG _ _ _ _) _ ?_ ?_; rotate_left; (conv => whnf); rotate_right)); all_goals (try ((guard_target = underG _ _ _ _); refine underG_none ?_; (all_goals (try simp only [underG, true_and, and_true, Bool.cond_true_left, Bool.cond_false_left, Bool.cond_true_right, Bool.cond_false_right, Bool.or_eq_true, Bool.and_eq_true, Bool.or_eq_false_iff, Bool.and_eq_false_iff, cond_true, cond_false, Bool.not_eq_eq_eq_not, Bool.not_true, Bool.not_false, decide_eq_true_eq, decide_eq_false_iff_not, Int.toNat_natCast, Nat.zero_add, Decidable.not_not, maxL, inn_iff] at *)); all_goals omega)))
    refine .inl ⟨_, _, _, uG (QC.fc (c_r16sets (l.getD (j : Int).toNat default) p) rfl), ?_⟩
    conv => whnf
    ((repeat' first | refine AWp_seq ?_ | (refine AWp_reg tok (by rfl) ?_; conv => whnf) | (refine AWp_any tok mix (by rfl) ?_; conv => whnf) | (refine AWp_skip ?_; conv => whnf) | (refine AWp_ret ?_; conv => whnf) | refine AWp_cond rfl (fun hb => ?_) (fun hb => ?_) | (refine @And.intro (underG _ _ _ _) _ ?_ ?_; rotate_left; (conv => whnf); rotate_right)); all_goals (try ((guard_target = underG _ _ _ _); refine underG_none ?_; (all_goals (try simp only [underG, true_and, and_true, Bool.cond_true_left, Bool.cond_false_left, Bool.cond_true_right, Bool.cond_false_right, Bool.or_eq_true, Bool.and_eq_true, Bool.or_eq_false_iff, Bool.and_eq_false_iff, cond_true, cond_false, Bool.not_eq_eq_eq_not, Bool.not_true, Bool.not_false, decide_eq_true_eq, decide_eq_false_iff_not, Int.toNat_natCast, Nat.zero_add, Decidable.not_not, maxL, inn_iff] at *)); all_goals omega)))
    · refine ⟨_, rfl, ?_⟩
      rw [hf]
      simp only [aheadN]
      rw [hjj, decide_eq_true_eq] at hb
      rw [if_pos hb]
      exact Rel.tup (.cons (Rel.int (by rw [hjj])) (.cons (Rel.bool (by rw [hjj])) .nil))
    · refine ⟨j, ⟨by omega, ?_⟩, by omega, ?_⟩
      · rw [hf]; simp only [aheadN]
        rw [hjj, decide_eq_false_iff_not] at hb
        rw [if_neg hb]
      refine Weak.list [] rfl (by rfl) ?_ .nil
      ((repeat' first | exact TLes.nil | refine TLes.cons (TLe.eq rfl) ?_ | refine TLes.cons (TLe.int ?_) ?_); (all_goals first | ((try (simp only [underG, true_and, and_true, Bool.cond_true_left, Bool.cond_false_left, Bool.cond_true_right, Bool.cond_false_right, Bool.or_eq_true, Bool.and_eq_true, Bool.or_eq_false_iff, Bool.and_eq_false_iff, cond_true, cond_false, Bool.not_eq_eq_eq_not, Bool.not_true, Bool.not_false, decide_eq_true_eq, decide_eq_false_iff_not, Int.toNat_natCast, Nat.zero_add, Decidable.not_not, maxL, inn_iff] at *)); exact wrap64 (by omega) (by omega)) | skip))
  · have hk0 : k = 0 := by simp only [decide_eq_false_iff_not] at hb; omega
    subst hk0
    refine ⟨_, rfl, ?_⟩
    rw [hf]
    exact Rel.tup (.cons (Rel.imm rfl) (.cons (Rel.imm rfl) .nil))
theorem u64w {x : Int} (h : 0 ≤ x) (h2 : x < 18446744073709551616) : IntKind.u64.wrap x = x := by
  rw [IntKind.wrap_u64]; omega
theorem u16w (x : Int) : IntKind.u16.wrap x = x % 65536 := by
  unfold IntKind.wrap; simp [IntKind.bits, IntKind.signed]
theorem c_rDo (op a b : Int) : FC Try.prog 91 [iv op, .int .u16 a, .int .u16 b] (.tup [.int .u16 (doW op a b).1, .bool (doW op a b).2]) := by
  refine FC_intro tok Try.func91 rfl (by decide +kernel) (Nat.le_of_ble_eq_true rfl) ?_
  refine AWp_facts 1 (fun h1 => ?_)
  refine AWp_facts 2 (fun h2 => ?_)
  have ha : 0 ≤ a ∧ a ≤ 65535 := h1
  have hb2 : 0 ≤ b ∧ b ≤ 65535 := h2
  clear h1 h2
  have ea : IntKind.u64.wrap a = a := u64w ha.1 (by omega)
  have eb : IntKind.u64.wrap b = b := u64w hb2.1 (by omega)
  have modw : ∀ x : Int, 0 ≤ x → x < 18446744073709551616 → IntKind.u16.wrap (IntKind.u64.wrap ((IntKind.u64.wrap x).tmod 65536)) = w16 x := fun x h1 h2 => by
    rw [u64w h1 h2, Int.tmod_eq_emod_of_nonneg h1, u64w (by omega) (by omega), w16, u16w, u16w]; omega
  have m3 : IntKind.u16.wrap (IntKind.u64.wrap ((IntKind.u64.wrap (IntKind.u64.wrap a + IntKind.u64.wrap b)).tmod 65536)) = w16 (a + b) := by
    rw [ea, eb]; exact modw _ (by omega) (by omega)
  have m4 : IntKind.u16.wrap (IntKind.u64.wrap ((IntKind.u64.wrap (IntKind.u64.wrap (IntKind.u64.wrap a + 65536) - IntKind.u64.wrap b)).tmod 65536)) = w16 (a - b) := by
    rw [ea, eb, u64w (x := a + 65536) (by omega) (by omega), modw _ (by omega) (by omega), w16, w16, u16w, u16w]; omega
  have hm1 : 0 ≤ a * b := Int.mul_nonneg ha.1 hb2.1
  have hm2 : a * b ≤ 65535 * 65535 := Int.mul_le_mul ha.2 hb2.2 hb2.1 (by omega)
  have m5 : IntKind.u16.wrap (IntKind.u64.wrap ((IntKind.u64.wrap (IntKind.u64.wrap a * IntKind.u64.wrap b)).tmod 65536)) = w16 (a * b) := by
    rw [ea, eb]; exact modw _ hm1 (by omega)
  have hd0 : 0 ≤ a.tdiv b := Int.tdiv_nonneg ha.1 hb2.1
  have hd1 : a.tdiv b ≤ a := Int.tdiv_le_self _ ha.1
  have m6 : IntKind.u16.wrap (IntKind.u64.wrap ((IntKind.u64.wrap a).tdiv (IntKind.u64.wrap b))) = w16 (a.tdiv b) := by
    rw [ea, eb, u64w hd0 (by omega)]; rfl
  ((repeat' first | refine AWp_seq ?_ | (refine AWp_reg tok (by rfl) ?_; conv => whnf) | (refine AWp_skip ?_; conv => whnf) | (refine AWp_ret ?_; conv => whnf) | refine AWp_cond rfl (fun hb => ?_) (fun hb => ?_) | (refine @And.intro (underG _ _ _ _) _ ?_ ?_; rotate_left; (conv => whnf); rotate_right)); all_goals (try ((guard_target = underG _ _ _ _); refine underG_none ?_; (all_goals (try simp only [underG, true_and, and_true, Bool.cond_true_left, Bool.cond_false_left, Bool.cond_true_right, Bool.cond_false_right, Bool.or_eq_true, Bool.and_eq_true, Bool.or_eq_false_iff, Bool.and_eq_false_iff, cond_true, cond_false, Bool.not_eq_eq_eq_not, Bool.not_true, Bool.not_false, decide_eq_true_eq, decide_eq_false_iff_not, Int.toNat_natCast, Nat.zero_add, Decidable.not_not, maxL, inn_iff] at *)); all_goals omega)))
  all_goals refine ⟨_, rfl, Rel.tup (.cons (Rel.int ?_) (.cons (Rel.bool ?_) .nil))⟩
  all_goals simp only [decide_eq_true_eq, decide_eq_false_iff_not] at *
  all_goals first
    | (simp only [m3, m4, m5, m6]; simp [doW, *]; done)
    | (simp [doW, *]; done)
    | skip
  all_goals (rw [ea, eb] at *)
  all_goals (try rw [m6])
  all_goals clear m3 m4 m5 m6 hm1 hm2 hd0 hd1 modw ea eb
  all_goals (simp only [cond_eq_ite] at *; unfold doW; grind)
theorem refK_snoc : ∀ (r l : List Ins) (x : Ins), refK l (r ++ [x]) = refK l r ++ [ref16X (refK l r) x]
  | [], l, x => rfl
  | y :: r, l, x => by simp only [List.cons_append, refK]; exact refK_snoc r _ x
theorem refK_len : ∀ (r l : List Ins), (refK l r).length = l.length + r.length
  | [], l => by simp [refK]
  | y :: r, l => by simp only [refK]; rw [refK_len r]; simp; omega
def refKP (l : List Ins) (i : Nat) : List Ins := refK [] (l.take i)
theorem refKP_len {l : List Ins} {i : Nat} (h : i ≤ l.length) : (refKP l i).length = i := by unfold refKP; rw [refK_len]; simp; omega
theorem refKP_succ {l : List Ins} {i : Nat} (h : i < l.length) : refKP l (i + 1) = refKP l i ++ [ref16X (refKP l i) (l.getD i default)] := by
  unfold refKP; rw [take_succ_getD default h, refK_snoc]
set_option maxHeartbeats 2000000 in
theorem c_r16Block (b : Block) : FC Try.prog 51 [.agg (encBlock b)] (.agg (encBlock (ref16B b))) := by
  refine FC_intro tok Try.func51 rfl (by decide +kernel) (Nat.le_of_ble_eq_true rfl) ?_
  refine AWp_facts 0 (fun hl => ?_)
  have hl0 : b.ins.length ≤ maxL := hl.2.2.2.2.2.1.1
  have hmx : maxL = 4294967296 := rfl
  clear hl
  (repeat' first | refine AWp_seq ?_ | (refine AWp_reg tok (by rfl) ?_; conv => whnf) | refine AWp_block ?_)
  refine AWp_loop (fun i : Nat => mkS [(1, .bp (1, 0, 0) 0), (2, .bp (2, 0, 0) 0), (3, .rs (3, 1, 0) 7 0 i), (4, iv i)]
      [((1, 0, 0), boxed (encBlock b)), ((2, 0, 0), boxed [.bool false, iv 0, .nsl, .bool false, .bool false, .nsl, iv 0, iv 0, iv 0, iv 0, .nsl, iv 0, iv 0, iv 0]), ((3, 1, 0), .row true 7 i (fun x => encIns ((refKP b.ins i).getD x default)))])
    (fun i => i ≤ b.ins.length) (fun i => b.ins.length - i) 0 (Nat.zero_le _) ?_ ?_
  · refine Weak.list [((1, 0, 0), .old (1, 0, 0), boxed (encBlock b)), ((2, 0, 0), .old (2, 0, 0), boxed [.bool false, iv 0, .nsl, .bool false, .bool false, .nsl, iv 0, iv 0, iv 0, iv 0, .nsl, iv 0, iv 0, iv 0]), ((3, 1, 0), .nil, .row true 7 0 (fun x => encIns ((refKP b.ins 0).getD x default)))] rfl (by rfl) ?_ (.old rfl (BLe.refl _) (.old rfl (BLe.refl _) (.new .nil)))
    ((repeat' first | exact TLes.nil | refine TLes.cons (TLe.eq rfl) ?_ | refine TLes.cons (TLe.nilL rfl ?_) ?_); (all_goals first | rfl | skip))
  intro i hi
  have hpl := refKP_len hi
  ((repeat' ((fail_if_success (show AWp _ _ _ (Code.region 6 _ _) _ _)); first | refine AWp_seq ?_ | (refine AWp_reg tok (by rfl) ?_; conv => whnf) | refine AWp_block ?_ | (refine AWp_skip ?_; conv => whnf) | (refine AWp_exit ?_; conv => whnf) | (refine AWp_ret ?_; conv => whnf) | refine AWp_cond rfl (fun hb => ?_) (fun hb => ?_) | (refine @And.intro (underG _ _ _ _) _ ?_ ?_; rotate_left; (conv => whnf); rotate_right))); all_goals (try ((guard_target = underG _ _ _ _); refine underG_none ?_; (all_goals (try simp only [underG, true_and, and_true, Bool.cond_true_left, Bool.cond_false_left, Bool.cond_true_right, Bool.cond_false_right, Bool.or_eq_true, Bool.and_eq_true, Bool.or_eq_false_iff, Bool.and_eq_false_iff, cond_true, cond_false, Bool.not_eq_eq_eq_not, Bool.not_true, Bool.not_false, decide_eq_true_eq, decide_eq_false_iff_not, Int.toNat_natCast, Nat.zero_add, Decidable.not_not, maxL, inn_iff] at *)); all_goals omega)))
  · have hlt : i < b.ins.length := by simp only [decide_eq_true_eq] at hb; omega
    clear hb
    have hii : (i : Int).toNat = i := Int.toNat_natCast i
    have hgen : ∃ x, b.ins.getD i default = x := ⟨_, rfl⟩
    obtain ⟨x, hx⟩ := hgen
    have hgen : ∃ L, refKP b.ins i = L := ⟨_, rfl⟩
    obtain ⟨L, hL⟩ := hgen
    have hsucc := refKP_succ hlt
    rw [hL, hx] at hsucc
    rw [hL] at hpl
    refine AWp_weak (Weak.list (tl := [(1, .bp (1, 0, 0) 0), (2, .bp (2, 0, 0) 0), (3, .rs (3, 1, 0) 7 0 i), (4, iv i), (5, .bp (5, 0, 0) 0)]) [((1, 0, 0), .old (1, 0, 0), boxed (encBlock b)), ((2, 0, 0), .old (2, 0, 0), boxed [.bool false, iv 0, .nsl, .bool false, .bool false, .nsl, iv 0, iv 0, iv 0, iv 0, .nsl, iv 0, iv 0, iv 0]), ((3, 1, 0), .old (3, 1, 0), .row true 7 i (fun x => encIns (L.getD x default))), ((5, 0, 0), .old (5, 0, 0), .row true 7 1 (fun _ => encIns x))] rfl (by rfl) ?_ (.old rfl (BLe.refl _) (.old rfl (BLe.refl _) (.old rfl (BLe.rowW (Nat.le_refl _) (fun z _ => Wks.of (by rw [← hL]; rfl))) (.old rfl (BLe.rowW (Nat.le_refl _) (ltS (Wks.of (by rw [← hx]; rfl)) lt0)) .nil))))) ?_
    · ((repeat' first | exact TLes.nil | refine TLes.cons (TLe.eq rfl) ?_); skip)
    (repeat' ((fail_if_success (show AWp _ _ _ (Code.region 13 _ _) _ _)); first | refine AWp_seq ?_ | (refine AWp_reg tok (by rfl) ?_; conv => whnf) | (refine AWp_skip ?_; conv => whnf) | refine AWp_cond rfl (fun hb => ?_) (fun hb => ?_)))
    · have hop : 2 ≤ x.op ∧ x.op ≤ 8 := by simpa using hb
      clear hb
      refine .inl ⟨_, _, _, uG (QC.sc (rd := [(3, 1, 0)]) (c_ahead L x.a) (.cons (.row rfl (memI_iff.1 rfl) rfl hpl.symm (fun _ _ => rfl)) (.cons (.imm rfl) .nil)) rfl), ?_⟩
      conv => whnf
      (repeat' ((fail_if_success (show AWp _ _ _ (Code.region 13 _ _) _ _)); first | refine AWp_seq ?_ | (refine AWp_reg tok (by rfl) ?_; conv => whnf)))
      refine .inl ⟨_, _, _, uG (QC.sc (rd := [(3, 1, 0)]) (c_ahead L x.b) (.cons (.row rfl (memI_iff.1 rfl) rfl hpl.symm (fun _ _ => rfl)) (.cons (.imm rfl) .nil)) rfl), ?_⟩
      conv => whnf
      (repeat' ((fail_if_success (show AWp _ _ _ (Code.region 13 _ _) _ _)); first | refine AWp_seq ?_ | (refine AWp_reg tok (by rfl) ?_; conv => whnf) | (refine AWp_skip ?_; conv => whnf) | refine AWp_cond rfl (fun hb => ?_) (fun hb => ?_)))
      · have hk : (aheadL L x.a).2 = true ∧ ((aheadL L x.b).2 = true ∨ x.op = 2) := by simpa [cond_eq_ite] using hb
        clear hb
        refine .inl ⟨_, _, _, uG (QC.fc (c_rDo x.op (aheadL L x.a).1 (aheadL L x.b).1) rfl), ?_⟩
        conv => whnf
        (repeat' ((fail_if_success (show AWp _ _ _ (Code.region 13 _ _) _ _)); first | refine AWp_seq ?_ | (refine AWp_reg tok (by rfl) ?_; conv => whnf) | (refine AWp_skip ?_; conv => whnf) | refine AWp_cond rfl (fun hb => ?_) (fun hb => ?_)))
        · have hrx : ref16X L x = ⟨1, x.dst, 0, 0, (doW x.op (aheadL L x.a).1 (aheadL L x.b).1).1, 0, []⟩ := by
            unfold ref16X; rw [if_pos ⟨hop, hk.1, hk.2, hb⟩]
          clear hb
          refine AWp_weak (Weak.list (tl := [(1, .bp (1, 0, 0) 0), (2, .bp (2, 0, 0) 0), (3, .rs (3, 1, 0) 7 0 i), (4, iv i), (5, .bp (5, 0, 0) 0)]) [((1, 0, 0), .old (1, 0, 0), boxed (encBlock b)), ((2, 0, 0), .old (2, 0, 0), boxed [.bool false, iv 0, .nsl, .bool false, .bool false, .nsl, iv 0, iv 0, iv 0, iv 0, .nsl, iv 0, iv 0, iv 0]), ((3, 1, 0), .old (3, 1, 0), .row true 7 i (fun x => encIns (L.getD x default))), ((5, 0, 0), .old (5, 0, 0), .row true 7 1 (fun _ => encIns (ref16X L x)))] rfl (by rfl) ?_ (.old rfl (BLe.refl _) (.old rfl (BLe.refl _) (.old rfl (BLe.refl _) (.old rfl (BLe.rowW (Nat.le_refl _) (ltS ?_ lt0)) .nil))))) ?_
          · ((repeat' first | exact TLes.nil | refine TLes.cons (TLe.eq rfl) ?_); skip)
          · rw [hrx]
            exact .cons .refl (.cons .refl (.cons .refl (.cons .refl (.cons .refl (.cons .refl (.cons (.nsl rfl) .nil))))))
          have hrx : ref16X L x = ref16X L x := rfl
          ((repeat' first | (refine AWp_reg tok (by rfl) ?_; conv => whnf) | (refine @And.intro (underG _ _ _ _) _ ?_ ?_; rotate_left; (conv => whnf); rotate_right)); all_goals (try ((guard_target = underG _ _ _ _); refine underG_none ?_; (first | refine And.intro (srcObl_rs rfl ?_) ?_ | skip); (all_goals (try simp only [underG, true_and, and_true, Bool.cond_true_left, Bool.cond_false_left, Bool.cond_true_right, Bool.cond_false_right, Bool.or_eq_true, Bool.and_eq_true, Bool.or_eq_false_iff, Bool.and_eq_false_iff, cond_true, cond_false, Bool.not_eq_eq_eq_not, Bool.not_true, Bool.not_false, decide_eq_true_eq, decide_eq_false_iff_not, Int.toNat_natCast, Nat.zero_add, Decidable.not_not, maxL, inn_iff] at *)); all_goals omega)))
          refine ⟨i + 1, hlt, by omega, ?_⟩
          refine Weak.list [((1, 0, 0), .old (1, 0, 0), boxed (encBlock b)), ((2, 0, 0), .old (2, 0, 0), boxed [.bool false, iv 0, .nsl, .bool false, .bool false, .nsl, iv 0, iv 0, iv 0, iv 0, .nsl, iv 0, iv 0, iv 0]), ((3, 1, 0), .old (73, 0, 0), .row true 7 (i + 1) (fun x => encIns ((refKP b.ins (i + 1)).getD x default)))] rfl (by rfl) ?_ (.old rfl (BLe.refl _) (.old rfl (BLe.refl _) (.old rfl (BLe.rowW (Nat.le_refl _) (fun z hz => Wks.of ?_)) .nil)))
          · ((repeat' first | exact TLes.nil | refine TLes.cons (TLe.eq rfl) ?_ | refine TLes.cons (TLe.int ?_) ?_); (all_goals first | ((try (simp only [underG, true_and, and_true, Bool.cond_true_left, Bool.cond_false_left, Bool.cond_true_right, Bool.cond_false_right, Bool.or_eq_true, Bool.and_eq_true, Bool.or_eq_false_iff, Bool.and_eq_false_iff, cond_true, cond_false, Bool.not_eq_eq_eq_not, Bool.not_true, Bool.not_false, decide_eq_true_eq, decide_eq_false_iff_not, Int.toNat_natCast, Nat.zero_add, Decidable.not_not, maxL, inn_iff] at *)); exact wrap64 (by omega) (by omega)) | skip))
          · rw [hsucc, hrx]
            exact app_snoc encIns default 7 hpl.symm (fun q _ => rfl) rfl rfl hz
        · have hrx : ref16X L x = x := by
            unfold ref16X; rw [if_neg (fun e => by rw [hb] at e; cases e.2.2.2)]
          clear hb
          ((repeat' first | (refine AWp_reg tok (by rfl) ?_; conv => whnf) | (refine @And.intro (underG _ _ _ _) _ ?_ ?_; rotate_left; (conv => whnf); rotate_right)); all_goals (try ((guard_target = underG _ _ _ _); refine underG_none ?_; (first | refine And.intro (srcObl_rs rfl ?_) ?_ | skip); (all_goals (try simp only [underG, true_and, and_true, Bool.cond_true_left, Bool.cond_false_left, Bool.cond_true_right, Bool.cond_false_right, Bool.or_eq_true, Bool.and_eq_true, Bool.or_eq_false_iff, Bool.and_eq_false_iff, cond_true, cond_false, Bool.not_eq_eq_eq_not, Bool.not_true, Bool.not_false, decide_eq_true_eq, decide_eq_false_iff_not, Int.toNat_natCast, Nat.zero_add, Decidable.not_not, maxL, inn_iff] at *)); all_goals omega)))
          refine ⟨i + 1, hlt, by omega, ?_⟩
          refine Weak.list [((1, 0, 0), .old (1, 0, 0), boxed (encBlock b)), ((2, 0, 0), .old (2, 0, 0), boxed [.bool false, iv 0, .nsl, .bool false, .bool false, .nsl, iv 0, iv 0, iv 0, iv 0, .nsl, iv 0, iv 0, iv 0]), ((3, 1, 0), .old (73, 0, 0), .row true 7 (i + 1) (fun x => encIns ((refKP b.ins (i + 1)).getD x default)))] rfl (by rfl) ?_ (.old rfl (BLe.refl _) (.old rfl (BLe.refl _) (.old rfl (BLe.rowW (Nat.le_refl _) (fun z hz => Wks.of ?_)) .nil)))
          · ((repeat' first | exact TLes.nil | refine TLes.cons (TLe.eq rfl) ?_ | refine TLes.cons (TLe.int ?_) ?_); (all_goals first | ((try (simp only [underG, true_and, and_true, Bool.cond_true_left, Bool.cond_false_left, Bool.cond_true_right, Bool.cond_false_right, Bool.or_eq_true, Bool.and_eq_true, Bool.or_eq_false_iff, Bool.and_eq_false_iff, cond_true, cond_false, Bool.not_eq_eq_eq_not, Bool.not_true, Bool.not_false, decide_eq_true_eq, decide_eq_false_iff_not, Int.toNat_natCast, Nat.zero_add, Decidable.not_not, maxL, inn_iff] at *)); exact wrap64 (by omega) (by omega)) | skip))
          · rw [hsucc, hrx]
            exact app_snoc encIns default 7 hpl.symm (fun q _ => rfl) rfl rfl hz
      · have hrx : ref16X L x = x := by
          unfold ref16X; rw [if_neg (fun e => ?_)]
          obtain ⟨_, h2, h3, _⟩ := e
          rcases h3 with h3 | h3 <;> simp [cond_eq_ite, h2, h3] at hb
        clear hb
        ((repeat' first | (refine AWp_reg tok (by rfl) ?_; conv => whnf) | (refine @And.intro (underG _ _ _ _) _ ?_ ?_; rotate_left; (conv => whnf); rotate_right)); all_goals (try ((guard_target = underG _ _ _ _); refine underG_none ?_; (first | refine And.intro (srcObl_rs rfl ?_) ?_ | skip); (all_goals (try simp only [underG, true_and, and_true, Bool.cond_true_left, Bool.cond_false_left, Bool.cond_true_right, Bool.cond_false_right, Bool.or_eq_true, Bool.and_eq_true, Bool.or_eq_false_iff, Bool.and_eq_false_iff, cond_true, cond_false, Bool.not_eq_eq_eq_not, Bool.not_true, Bool.not_false, decide_eq_true_eq, decide_eq_false_iff_not, Int.toNat_natCast, Nat.zero_add, Decidable.not_not, maxL, inn_iff] at *)); all_goals omega)))
        refine ⟨i + 1, hlt, by omega, ?_⟩
        refine Weak.list [((1, 0, 0), .old (1, 0, 0), boxed (encBlock b)), ((2, 0, 0), .old (2, 0, 0), boxed [.bool false, iv 0, .nsl, .bool false, .bool false, .nsl, iv 0, iv 0, iv 0, iv 0, .nsl, iv 0, iv 0, iv 0]), ((3, 1, 0), .old (73, 0, 0), .row true 7 (i + 1) (fun x => encIns ((refKP b.ins (i + 1)).getD x default)))] rfl (by rfl) ?_ (.old rfl (BLe.refl _) (.old rfl (BLe.refl _) (.old rfl (BLe.rowW (Nat.le_refl _) (fun z hz => Wks.of ?_)) .nil)))
        · ((repeat' first | exact TLes.nil | refine TLes.cons (TLe.eq rfl) ?_ | refine TLes.cons (TLe.int ?_) ?_); (all_goals first | ((try (simp only [underG, true_and, and_true, Bool.cond_true_left, Bool.cond_false_left, Bool.cond_true_right, Bool.cond_false_right, Bool.or_eq_true, Bool.and_eq_true, Bool.or_eq_false_iff, Bool.and_eq_false_iff, cond_true, cond_false, Bool.not_eq_eq_eq_not, Bool.not_true, Bool.not_false, decide_eq_true_eq, decide_eq_false_iff_not, Int.toNat_natCast, Nat.zero_add, Decidable.not_not, maxL, inn_iff] at *)); exact wrap64 (by omega) (by omega)) | skip))
        · rw [hsucc, hrx]
          exact app_snoc encIns default 7 hpl.symm (fun q _ => rfl) rfl rfl hz
    · have hrx : ref16X L x = x := by
        unfold ref16X; rw [if_neg (fun e => ?_)]
        obtain ⟨⟨h1, h2⟩, _⟩ := e
        simp [cond_eq_ite] at hb
        omega
      clear hb
      ((repeat' first | (refine AWp_reg tok (by rfl) ?_; conv => whnf) | (refine @And.intro (underG _ _ _ _) _ ?_ ?_; rotate_left; (conv => whnf); rotate_right)); all_goals (try ((guard_target = underG _ _ _ _); refine underG_none ?_; (first | refine And.intro (srcObl_rs rfl ?_) ?_ | skip); (all_goals (try simp only [underG, true_and, and_true, Bool.cond_true_left, Bool.cond_false_left, Bool.cond_true_right, Bool.cond_false_right, Bool.or_eq_true, Bool.and_eq_true, Bool.or_eq_false_iff, Bool.and_eq_false_iff, cond_true, cond_false, Bool.not_eq_eq_eq_not, Bool.not_true, Bool.not_false, decide_eq_true_eq, decide_eq_false_iff_not, Int.toNat_natCast, Nat.zero_add, Decidable.not_not, maxL, inn_iff] at *)); all_goals omega)))
      refine ⟨i + 1, hlt, by omega, ?_⟩
      refine Weak.list [((1, 0, 0), .old (1, 0, 0), boxed (encBlock b)), ((2, 0, 0), .old (2, 0, 0), boxed [.bool false, iv 0, .nsl, .bool false, .bool false, .nsl, iv 0, iv 0, iv 0, iv 0, .nsl, iv 0, iv 0, iv 0]), ((3, 1, 0), .old (73, 0, 0), .row true 7 (i + 1) (fun x => encIns ((refKP b.ins (i + 1)).getD x default)))] rfl (by rfl) ?_ (.old rfl (BLe.refl _) (.old rfl (BLe.refl _) (.old rfl (BLe.rowW (Nat.le_refl _) (fun z hz => Wks.of ?_)) .nil)))
      · ((repeat' first | exact TLes.nil | refine TLes.cons (TLe.eq rfl) ?_ | refine TLes.cons (TLe.int ?_) ?_); (all_goals first | ((try (simp only [underG, true_and, and_true, Bool.cond_true_left, Bool.cond_false_left, Bool.cond_true_right, Bool.cond_false_right, Bool.or_eq_true, Bool.and_eq_true, Bool.or_eq_false_iff, Bool.and_eq_false_iff, cond_true, cond_false, Bool.not_eq_eq_eq_not, Bool.not_true, Bool.not_false, decide_eq_true_eq, decide_eq_false_iff_not, Int.toNat_natCast, Nat.zero_add, Decidable.not_not, maxL, inn_iff] at *)); exact wrap64 (by omega) (by omega)) | skip))
      · rw [hsucc, hrx]
        exact app_snoc encIns default 7 hpl.symm (fun q _ => rfl) rfl rfl hz
  · rename_i hbi
    have hil : i = b.ins.length := by simp only [decide_eq_false_iff_not] at hbi; omega
    have hk : b.fin.kind = 3 := by simpa using hb
    clear hb hbi
    subst hil
    have hL : refKP b.ins b.ins.length = refK [] b.ins := by simp [refKP]
    refine .inl ⟨_, _, _, uG (QC.sc (rd := [(3, 1, 0)]) (c_ahead (refKP b.ins b.ins.length) b.fin.a) (.cons (.row rfl (memI_iff.1 rfl) rfl hpl.symm (fun _ _ => rfl)) (.cons (.imm rfl) .nil)) rfl), ?_⟩
    conv => whnf
    (repeat' first | refine AWp_seq ?_ | (refine AWp_reg tok (by rfl) ?_; conv => whnf) | (refine AWp_skip ?_; conv => whnf) | (refine AWp_ret ?_; conv => whnf) | refine AWp_cond rfl (fun hb => ?_) (fun hb => ?_))
    · have hfin : (ref16B b).fin = ⟨2, 0, 0, 0, [], b.fin.to, 0, 0⟩ := by
        show ref16E (refK [] b.ins) b.fin = _
        rw [hL] at hb
        unfold ref16E
        have h2 : (aheadL (refK [] b.ins) b.fin.a).2 = true ∧ (aheadL (refK [] b.ins) b.fin.a).1 ≠ 0 := by
          simpa [cond_eq_ite] using hb
        rw [if_pos ⟨hk, h2.1⟩, if_pos h2.2]
      refine ⟨_, rfl, Rel.agg (.cons (Rel.imm rfl) (.cons (Rel.imm rfl) (.cons (Rel.imm rfl) (.cons (Rel.imm rfl) (.cons (Rel.imm rfl) (.cons (Rel.row rfl rfl (by simp [ref16B, refK_len]) (fun z _ => by rw [hL]; rfl)) ?_))))))⟩
      rw [hfin]
      exact .cons (Rel.imm rfl) (.cons (Rel.imm rfl) (.cons (Rel.imm rfl) (.cons (Rel.imm rfl) (.cons (Rel.nsl' rfl) (.cons (Rel.imm rfl) (.cons (Rel.imm rfl) (.cons (Rel.imm rfl) .nil)))))))
    · have hfin : (ref16B b).fin = ⟨2, 0, 0, 0, [], b.fin.els, 0, 0⟩ := by
        rename_i hb0
        show ref16E (refK [] b.ins) b.fin = _
        rw [hL] at hb hb0
        unfold ref16E
        have h2 : (aheadL (refK [] b.ins) b.fin.a).1 = 0 := by
          rw [hb] at hb0; simpa [cond_eq_ite] using hb0
        rw [if_pos ⟨hk, hb⟩, if_neg (fun e => e h2)]
      refine ⟨_, rfl, Rel.agg (.cons (Rel.imm rfl) (.cons (Rel.imm rfl) (.cons (Rel.imm rfl) (.cons (Rel.imm rfl) (.cons (Rel.imm rfl) (.cons (Rel.row rfl rfl (by simp [ref16B, refK_len]) (fun z _ => by rw [hL]; rfl)) ?_))))))⟩
      rw [hfin]
      exact .cons (Rel.imm rfl) (.cons (Rel.imm rfl) (.cons (Rel.imm rfl) (.cons (Rel.imm rfl) (.cons (Rel.nsl' rfl) (.cons (Rel.imm rfl) (.cons (Rel.imm rfl) (.cons (Rel.imm rfl) .nil)))))))
    · have hfin : (ref16B b).fin = b.fin := by
        show ref16E (refK [] b.ins) b.fin = _
        rw [hL] at hb
        unfold ref16E
        rw [if_neg (fun e => by rw [hb] at e; cases e.2)]
      refine ⟨_, rfl, Rel.agg (.cons (Rel.imm rfl) (.cons (Rel.imm rfl) (.cons (Rel.imm rfl) (.cons (Rel.imm rfl) (.cons (Rel.imm rfl) (.cons (Rel.row rfl rfl (by simp [ref16B, refK_len]) (fun z _ => by rw [hL]; rfl)) ?_))))))⟩
      rw [hfin]
      exact Rels.imm rfl
  · rename_i hbi
    have hil : i = b.ins.length := by simp only [decide_eq_false_iff_not] at hbi; omega
    have hk : ¬ b.fin.kind = 3 := by simpa using hb
    clear hb hbi
    subst hil
    have hL : refKP b.ins b.ins.length = refK [] b.ins := by simp [refKP]
    have hfin : (ref16B b).fin = b.fin := by
      show ref16E (refK [] b.ins) b.fin = _
      unfold ref16E
      rw [if_neg (fun e => hk e.1)]
    refine ⟨_, rfl, Rel.agg (.cons (Rel.imm rfl) (.cons (Rel.imm rfl) (.cons (Rel.imm rfl) (.cons (Rel.imm rfl) (.cons (Rel.imm rfl) (.cons (Rel.row rfl rfl (by simp [ref16B, refK_len]) (fun z _ => by rw [hL]; rfl)) ?_))))))⟩
    rw [hfin]
    exact Rels.imm rfl
end Go.Proofs.Ytmanpbgaihdalaa
namespace Go.Proofs.Ytmanpbgaihdalaa
open Go Dv
set_option maxRecDepth 10000
set_option linter.unusedSimpArgs false

theorem c_r16Module (m : Module) : FC Try.prog 52 [.agg (encMod m)] (.agg (encMod (passM ref16B m))) := by
  obtain ⟨fs⟩ := m
  refine FC_intro tok Try.func52 rfl (by decide +kernel) (Nat.le_of_ble_eq_true rfl) ?_
  refine AWp_facts 0 (fun hl => ?_)
  have hl0 : fs.length ≤ maxL := hl.1.1
  have hmx : maxL = 4294967296 := rfl
  have hl1 : ∀ i, i < fs.length → (fs.getD i default).blocks.length ≤ maxL := fun i hi => (hl.1.2 i hi).2.2.1.1
  clear hl
  (repeat' first | refine AWp_seq ?_ | (refine AWp_reg tok (by rfl) ?_; conv => whnf) | refine AWp_block ?_)
  refine AWp_loop (fun n : Nat => mkS [(1, .bp (1, 0, 0) 0), (2, .bp (2, 0, 0) 0), (3, iv n)] [((1, 0, 0), .row true 1 1 (fun _ => [funcss (curS ref16B fs n 0)])), ((2, 0, 0), boxed [.nsl])])
    (fun n => n ≤ fs.length) (fun n => fs.length - n) 0 (Nat.zero_le _) ?_ ?_
  · refine Weak.list [((1, 0, 0), .old (1, 0, 0), .row true 1 1 (fun _ => [funcss (curS ref16B fs 0 0)])), ((2, 0, 0), .old (2, 0, 0), boxed [.nsl])] rfl (by rfl) ?_ (.old rfl (BLe.rowW (Nat.le_refl _) (ltS (Wks.of ?_) lt0)) (.old rfl (BLe.refl _) .nil))
    · ((repeat' first | exact TLes.nil | refine TLes.cons (TLe.eq rfl) ?_); skip)
    · rw [curS_zero, curL_zero]; rfl
  intro n hn
  have hsl := curS_len (B := ref16B) fs n 0
  (repeat' ((fail_if_success (show AWp _ _ _ (Code.region 5 _ _) _ _)); first | refine AWp_seq ?_ | (refine AWp_reg tok (by rfl) ?_; conv => whnf) | refine AWp_block ?_ | (refine AWp_skip ?_; conv => whnf) | (refine AWp_exit ?_; conv => whnf) | (refine AWp_ret ?_; conv => whnf) | refine AWp_cond rfl (fun hb => ?_) (fun hb => ?_)))
  · have hlt : n < fs.length := by simp only [decide_eq_true_eq] at hb; rw [hsl] at hb; omega
    clear hb
    have hbl := hl1 n hlt
    refine AWp_loop (fun k : Nat => mkS [(1, .bp (1, 0, 0) 0), (2, .bp (2, 0, 0) 0), (3, iv n), (4, iv k)] [((1, 0, 0), .row true 1 1 (fun _ => [funcss (curS ref16B fs n k)])), ((2, 0, 0), boxed [.nsl])])
      (fun k => k ≤ (fs.getD n default).blocks.length) (fun k => (fs.getD n default).blocks.length - k) 0 (Nat.zero_le _) ?_ ?_
    · refine Weak.list [((1, 0, 0), .old (1, 0, 0), .row true 1 1 (fun _ => [funcss (curS ref16B fs n 0)])), ((2, 0, 0), .old (2, 0, 0), boxed [.nsl])] rfl (by rfl) ?_ (.old rfl (BLe.refl _) (.old rfl (BLe.refl _) .nil))
      ((repeat' first | exact TLes.nil | refine TLes.cons (TLe.eq rfl) ?_); skip)
    intro k hk
    have hsk := curS_len (B := ref16B) fs n k
    have hsb : ((curS ref16B fs n k).getD n default).blocks.length = (fs.getD n default).blocks.length := by rw [curS_n hlt]; simp [mapF, mapB_len]
    have hnn : (n : Int).toNat = n := Int.toNat_natCast n
    have hkk : (k : Int).toNat = k := Int.toNat_natCast k
    ((repeat' ((fail_if_success (show AWp _ _ _ (Code.region 7 _ _) _ _)); first | refine AWp_seq ?_ | (refine AWp_reg tok (by rfl) ?_; conv => whnf) | refine AWp_block ?_ | (refine AWp_skip ?_; conv => whnf) | (refine AWp_exit ?_; conv => whnf) | refine AWp_cond rfl (fun hb => ?_) (fun hb => ?_) | (refine @And.intro (underG _ _ _ _) _ ?_ ?_; rotate_left; (conv => whnf); rotate_right))); all_goals (try ((guard_target = underG _ _ _ _); refine underG_none ?_; (all_goals (try simp only [underG, true_and, and_true, Bool.cond_true_left, Bool.cond_false_left, Bool.cond_true_right, Bool.cond_false_right, Bool.or_eq_true, Bool.and_eq_true, Bool.or_eq_false_iff, Bool.and_eq_false_iff, cond_true, cond_false, Bool.not_eq_eq_eq_not, Bool.not_true, Bool.not_false, decide_eq_true_eq, decide_eq_false_iff_not, Int.toNat_natCast, Nat.zero_add, Decidable.not_not, maxL, inn_iff] at *)); all_goals omega)))
    · have hkl : k < (fs.getD n default).blocks.length := by simp only [decide_eq_true_eq] at hb; rw [hnn, hsb] at hb; omega
      clear hb
      ((repeat' first | (refine AWp_any tok mix (by rfl) ?_; conv => whnf) | (refine @And.intro (underG _ _ _ _) _ ?_ ?_; rotate_left; (conv => whnf); rotate_right)); all_goals (try ((guard_target = underG _ _ _ _); refine underG_none ?_; (all_goals (try simp only [underG, true_and, and_true, Bool.cond_true_left, Bool.cond_false_left, Bool.cond_true_right, Bool.cond_false_right, Bool.or_eq_true, Bool.and_eq_true, Bool.or_eq_false_iff, Bool.and_eq_false_iff, cond_true, cond_false, Bool.not_eq_eq_eq_not, Bool.not_true, Bool.not_false, decide_eq_true_eq, decide_eq_false_iff_not, Int.toNat_natCast, Nat.zero_add, Decidable.not_not, maxL, inn_iff] at *)); all_goals omega)))
      refine .inl ⟨_, _, _, uG (QC.fc (c_r16Block (((curS ref16B fs n k).getD (n : Int).toNat default).blocks.getD (k : Int).toNat default)) rfl), ?_⟩
      conv => whnf
      skip
      refine .inl ⟨_, _, _, uG (QC.fc (c_With ⟨curS ref16B fs n k⟩ n k (ref16B (((curS ref16B fs n k).getD (n : Int).toNat default).blocks.getD (k : Int).toNat default)) (by rw [curS_len]; exact hlt) (by rw [hsb]; exact hkl)) rfl), ?_⟩
      conv => whnf
      (repeat' (refine AWp_reg tok (by rfl) ?_; conv => whnf))
      refine ⟨k + 1, hkl, by omega, ?_⟩
      refine Weak.list [((1, 0, 0), .old (1, 0, 0), .row true 1 1 (fun _ => [funcss (curS ref16B fs n (k + 1))])), ((2, 0, 0), .old (2, 0, 0), boxed [.nsl])] rfl (by rfl) ?_ (.old rfl (BLe.rowW (Nat.le_refl _) (ltS (Wks.of ?_) lt0)) (.old rfl (BLe.refl _) .nil))
      · ((repeat' first | exact TLes.nil | refine TLes.cons (TLe.eq rfl) ?_ | refine TLes.cons (TLe.int ?_) ?_); (all_goals first | ((try (simp only [underG, true_and, and_true, Bool.cond_true_left, Bool.cond_false_left, Bool.cond_true_right, Bool.cond_false_right, Bool.or_eq_true, Bool.and_eq_true, Bool.or_eq_false_iff, Bool.and_eq_false_iff, cond_true, cond_false, Bool.not_eq_eq_eq_not, Bool.not_true, Bool.not_false, decide_eq_true_eq, decide_eq_false_iff_not, Int.toNat_natCast, Nat.zero_add, Decidable.not_not, maxL, inn_iff] at *)); exact wrap64 (by omega) (by omega)) | skip))
      · show [funcss (setB ⟨curS ref16B fs n k⟩ n k (ref16B (((curS ref16B fs n k).getD (n : Int).toNat default).blocks.getD (k : Int).toNat default))).funcs] = _
        rw [hnn, hkk, curS_n hlt]
        simp only [mapF]
        rw [mapB_at hkl, if_neg (Nat.lt_irrefl k), setB_cur hlt hkl]
    · have hkl : k = (fs.getD n default).blocks.length := by simp only [decide_eq_false_iff_not] at hb; rw [hnn, hsb] at hb; omega
      clear hb
      subst hkl
      refine ⟨n + 1, hlt, by omega, ?_⟩
      refine Weak.list [((1, 0, 0), .old (1, 0, 0), .row true 1 1 (fun _ => [funcss (curS ref16B fs (n + 1) 0)])), ((2, 0, 0), .old (2, 0, 0), boxed [.nsl])] rfl (by rfl) ?_ (.old rfl (BLe.rowW (Nat.le_refl _) (ltS (Wks.of ?_) lt0)) (.old rfl (BLe.refl _) .nil))
      · ((repeat' first | exact TLes.nil | refine TLes.cons (TLe.eq rfl) ?_ | refine TLes.cons (TLe.int ?_) ?_); (all_goals first | ((try (simp only [underG, true_and, and_true, Bool.cond_true_left, Bool.cond_false_left, Bool.cond_true_right, Bool.cond_false_right, Bool.or_eq_true, Bool.and_eq_true, Bool.or_eq_false_iff, Bool.and_eq_false_iff, cond_true, cond_false, Bool.not_eq_eq_eq_not, Bool.not_true, Bool.not_false, decide_eq_true_eq, decide_eq_false_iff_not, Int.toNat_natCast, Nat.zero_add, Decidable.not_not, maxL, inn_iff] at *)); exact wrap64 (by omega) (by omega)) | skip))
      · show [funcss (curS ref16B fs n (fs.getD n default).blocks.length)] = _
        rw [curS_full]
  · have hnl : n = fs.length := by simp only [decide_eq_false_iff_not] at hb; rw [hsl] at hb; omega
    subst hnl
    refine ⟨_, rfl, Rel.agg ?_⟩
    rw [show encMod (passM ref16B ⟨fs⟩) = [funcss (curS ref16B fs fs.length 0)] from by rw [curS_zero, curL_all]; rfl]
    exact Rels.imm rfl
end Go.Proofs.Ytmanpbgaihdalaa
namespace Go.Proofs.Ytmanpbgaihdalaa
open Go Dv
set_option maxRecDepth 10000
set_option linter.unusedSimpArgs false

set_option maxHeartbeats 2000000 in
theorem c_fModule (m : Module) : FC Try.prog 49 [.agg (encMod m)] (.tup [.agg (encMod (doneM foldBlock m)), iv (errM m)]) := by
  obtain ⟨fs⟩ := m
  refine FC_intro tok Try.func49 rfl (by decide +kernel) (Nat.le_of_ble_eq_true rfl) ?_
  refine AWp_facts 0 (fun hl => ?_)
  have hl0 : fs.length ≤ maxL := hl.1.1
  have hmx : maxL = 4294967296 := rfl
  have hl1 : ∀ i, i < fs.length → (fs.getD i default).blocks.length ≤ maxL := fun i hi => (hl.1.2 i hi).2.2.1.1
  clear hl
  (repeat' first | refine AWp_seq ?_ | (refine AWp_reg tok (by rfl) ?_; conv => whnf))
  refine .inr ⟨_, _, _, uG (QH.ofF (c_Copy1 fs) rfl (fun i hi => by rcases modH1_dom hi with rfl | ⟨j, rfl⟩ <;> rfl)), ?_⟩
  conv => whnf
  (repeat' first | refine AWp_seq ?_ | (refine AWp_reg tok (by rfl) ?_; conv => whnf))
  refine .inl ⟨_, _, _, uG (QC.sc (rd := rdM fs) (c_lRight c_lpad ⟨fs⟩) (ress_mod rfl (fun j hj => ?_)) rfl), ?_⟩
  · show bigH [] (modH1 fs) _ (1000, j, 0) = _
    unfold bigH; rw [modH1_at hj]
  conv => whnf
  (repeat' first | refine AWp_seq ?_ | (refine AWp_reg tok (by rfl) ?_; conv => whnf) | refine AWp_block ?_ | (refine AWp_skip ?_; conv => whnf) | (refine AWp_ret ?_; conv => whnf) | refine AWp_cond rfl (fun hb => ?_) (fun hb => ?_))
  · have hr : rightB ⟨fs⟩ = false := by simpa using hb
    refine ⟨_, rfl, Rel.tup (.cons ?_ (.cons (Rel.int (by simp [errM, hr])) .nil))⟩
    rw [show doneM foldBlock ⟨fs⟩ = ⟨fs⟩ from by simp [doneM, hr]]
    refine rel_mod rfl (fun j hj => ⟨rfl, rfl, rfl⟩) rfl (fun j hj => ?_)
    show bigH [] (modH1 fs) _ (1000, j, 0) = _
    unfold bigH; rw [modH1_at hj]
  have hr : rightB ⟨fs⟩ = true := by simpa using hb
  clear hb
  refine AWp_loop (fun i : Nat => mkF [(1, .bp (1, 0, 0) 0), (2, .bp (2, 0, 0) 0), (3, iv 0), (14, .rs (900, 0, 0) 3 0 fs.length), (15, iv fs.length), (16, iv i)] [((1, 0, 0), .row false 1 1 (fun _ => [.rs (900, 0, 0) 3 0 fs.length])), ((2, 0, 0), boxed [.nsl]), ((900, 0, 0), funR1 fs (mem1 fs))] (blkF1 (curL foldBlock fs i) (fun _ => true)))
    (fun i => i ≤ fs.length) (fun i => fs.length - i) 0 (Nat.zero_le _) ?_ ?_
  · refine Weak.fam [] rfl (fun i hi => by cases hi) ?_ ?_ ?_ (fun i hi => by cases hi)
    · (repeat' first | exact TLg.nil | refine TLg.cons (GV.imm rfl) ?_ | refine TLg.cons (GV.bp rfl rfl) ?_ | refine TLg.cons (GV.rs rfl rfl ?_ ?_) ?_)
      all_goals rfl
    · exact .old rfl rfl (GB.one (.cons (.rs rfl rfl rfl rfl) .nil) (fun e => by cases e)) (.old rfl rfl (GB.one (GVs.imm rfl) (fun _ => rfl)) (.old rfl rfl (GB_fun1 (fun q hq => .rs (b := blkR1 ((curL foldBlock fs 0).getD q default).blocks) (show blkF1 (curL foldBlock fs 0) (fun _ => true) (1000, q, 0) = _ from blkF1_at (by rw [curL_len]; exact hq) rfl) rfl rfl rfl)) .nil))
    · intro j b e
      obtain ⟨p, rfl, hp, hp2, rfl⟩ := blkF1_some e
      rw [curL_zero] at hp ⊢
      refine HOk.mk rfl (b0 := blkR1 (fs.getD p default).blocks) ?_ (GB_blk1 _)
      show bigH [] (modH1 fs) _ (1000, p, 0) = _
      unfold bigH; rw [modH1_at hp]
  intro i hi
  ((repeat' ((fail_if_success (show AWp _ _ _ (Code.region 7 _ _) _ _)); first | refine AWp_seq ?_ | (refine AWp_reg tok (by rfl) ?_; conv => whnf) | refine AWp_block ?_ | (refine AWp_skip ?_; conv => whnf) | (refine AWp_exit ?_; conv => whnf) | (refine AWp_ret ?_; conv => whnf) | refine AWp_cond rfl (fun hb => ?_) (fun hb => ?_) | (refine @And.intro (underG _ _ _ _) _ ?_ ?_; rotate_left; (conv => whnf); rotate_right))); all_goals (try ((guard_target = underG _ _ _ _); refine underG_none ?_; (all_goals (try simp only [underG, true_and, and_true, Bool.cond_true_left, Bool.cond_false_left, Bool.cond_true_right, Bool.cond_false_right, Bool.or_eq_true, Bool.and_eq_true, Bool.or_eq_false_iff, Bool.and_eq_false_iff, cond_true, cond_false, Bool.not_eq_eq_eq_not, Bool.not_true, Bool.not_false, decide_eq_true_eq, decide_eq_false_iff_not, Int.toNat_natCast, Nat.zero_add, Decidable.not_not, maxL, inn_iff] at *)); all_goals omega)))
  · have hlt : i < fs.length := by simp only [decide_eq_true_eq] at hb; omega
    clear hb
    have hz : 0 + (i : Int).toNat = i := by simp
    have hbl := hl1 i hlt
    refine AWp_weak (Weak.fam (tl := [(1, .bp (1, 0, 0) 0), (2, .bp (2, 0, 0) 0), (3, iv 0), (14, .rs (900, 0, 0) 3 0 fs.length), (15, iv fs.length), (16, iv i), (5, .bp (5, 0, 0) 0)]) (hl := [((1, 0, 0), .row false 1 1 (fun _ => [.rs (900, 0, 0) 3 0 fs.length])), ((2, 0, 0), boxed [.nsl]), ((900, 0, 0), funR1 fs (fun j => sel (Nat.beq j i) (.rs (901, 0, 0) 14 0 (fs.getD i default).blocks.length) (mem1 fs j))), ((5, 0, 0), .row false 3 1 (fun _ => [iv (fs.getD i default).params, iv (fs.getD i default).regs, .rs (901, 0, 0) 14 0 (fs.getD i default).blocks.length])), ((901, 0, 0), blkR1 (mapB foldBlock (fs.getD i default).blocks 0))]) (F := (blkF1 (curL foldBlock fs i) (fun j => !(Nat.beq j i)))) [((901, 0, 0), some (1000, i, 0))] rfl (fun c hc => ?_) ?_ ?_ ?_ (fun i hi => by cases hi)) ?_
    · simp only [tgts, List.mem_singleton] at hc; subst hc
      left
      show blkF1 (curL foldBlock fs i) (fun j => !(Nat.beq j i)) (1000, i, 0) = none
      cases e : blkF1 (curL foldBlock fs i) (fun j => !(Nat.beq j i)) (1000, i, 0) with
      | none => rfl
      | some b => obtain ⟨p, e1, _, e2, _⟩ := blkF1_some e; cases e1; simp at e2
    · (repeat' first | exact TLg.nil | refine TLg.cons (GV.imm rfl) ?_ | refine TLg.cons (GV.bp rfl rfl) ?_ | refine TLg.cons (GV.rs rfl rfl ?_ ?_) ?_)
      all_goals rfl
    · refine .old rfl rfl (GB.one (.cons (.rs rfl rfl rfl rfl) .nil) (fun e => by cases e)) (.old rfl rfl (GB.one (GVs.imm rfl) (fun _ => rfl)) (.old rfl rfl (GB_fun1 (fun q hq => ?_)) (.old rfl rfl (GB.one (.cons (.int (by rw [hz])) (.cons (.int (by rw [hz])) (.cons ?_ .nil))) (fun e => by cases e)) (.old rfl ?_ (GB_blk1 _) .nil))))
      · by_cases e : q = i
        · subst e
          exact .cc (x' := mem1 fs q) rfl (show sel (Nat.beq q q) _ _ = _ from sel_eq) (.rs rfl srcL_hit rfl rfl)
        · exact .cc (x' := mem1 fs q) rfl (show sel (Nat.beq q i) _ _ = _ from sel_ne e) (.rs (b := blkR1 ((curL foldBlock fs i).getD q default).blocks) (show blkF1 (curL foldBlock fs i) (fun j => !(Nat.beq j i)) (1000, q, 0) = _ from blkF1_at (by rw [curL_len]; exact hq) (nbeq e)) (srcL_miss (fun h => e (by cases h))) rfl rfl)
      · exact .cc (x' := .rs (1000, i, 0) 14 0 (fs.getD i default).blocks.length) (show AV.rs (1000, 0 + (i : Int).toNat, 0) 14 0 (fs.getD (0 + (i : Int).toNat) default).blocks.length = _ by rw [hz]) rfl (.rs rfl srcL_hit rfl rfl)
      · show blkF1 (curL foldBlock fs i) (fun _ => true) (1000, i, 0) = _
        rw [blkF1_at (by rw [curL_len]; exact hlt) rfl, curL_at hlt, if_neg (Nat.lt_irrefl i)]
        congr 2
        refine list_ext_getD default (by simp [mapB]) (fun q hq => ?_)
        rw [mapB_at hq, if_neg (Nat.not_lt_zero q)]
    · intro j b e
      obtain ⟨p, rfl, hp, hp2, rfl⟩ := blkF1_some e
      exact HOk.mk (srcL_miss (fun h => by cases h)) (b0 := blkR1 ((curL foldBlock fs i).getD p default).blocks) (show blkF1 (curL foldBlock fs i) (fun _ => true) (1000, p, 0) = _ from blkF1_at hp rfl) (GB_blk1 _)
    (repeat' ((fail_if_success (show AWp _ _ _ (Code.region 8 _ _) _ _)); first | (refine AWp_reg tok (by rfl) ?_; conv => whnf) | refine AWp_block ?_))
    refine AWp_loop (fun k : Nat => mkF [(1, .bp (1, 0, 0) 0), (2, .bp (2, 0, 0) 0), (3, iv 0), (14, .rs (900, 0, 0) 3 0 fs.length), (15, iv fs.length), (16, iv i), (5, .bp (5, 0, 0) 0), (22, iv (fs.getD i default).blocks.length), (23, iv k)] [((1, 0, 0), .row false 1 1 (fun _ => [.rs (900, 0, 0) 3 0 fs.length])), ((2, 0, 0), boxed [.nsl]), ((900, 0, 0), funR1 fs (fun j => sel (Nat.beq j i) (.rs (901, 0, 0) 14 0 (fs.getD i default).blocks.length) (mem1 fs j))), ((5, 0, 0), .row false 3 1 (fun _ => [iv (fs.getD i default).params, iv (fs.getD i default).regs, .rs (901, 0, 0) 14 0 (fs.getD i default).blocks.length])), ((901, 0, 0), blkR1 (mapB foldBlock (fs.getD i default).blocks k))] (blkF1 (curL foldBlock fs i) (fun j => !(Nat.beq j i)))) (fun k => k ≤ (fs.getD i default).blocks.length) (fun k => (fs.getD i default).blocks.length - k) 0 (Nat.zero_le _) ?_ ?_
    · refine Weak.fam [] rfl (fun i hi => by cases hi) ?_ ?_ ?_ (fun i hi => by cases hi)
      · (repeat' first | exact TLg.nil | refine TLg.cons (GV.imm rfl) ?_ | refine TLg.cons (GV.bp rfl rfl) ?_ | refine TLg.cons (GV.rs rfl rfl ?_ ?_) ?_)
        all_goals first | rfl | (rw [mapB_len])
      · exact .old rfl rfl (GB.one (.cons (.rs rfl rfl rfl rfl) .nil) (fun e => by cases e)) (.old rfl rfl (GB.one (GVs.imm rfl) (fun _ => rfl)) (.old rfl rfl (GB_fun1 (fun q hq => keep1 (b := blkR1 ((curL foldBlock fs i).getD q default).blocks) (fun h => show blkF1 (curL foldBlock fs i) (fun j => !(Nat.beq j i)) (1000, q, 0) = _ from blkF1_at (by rw [curL_len]; exact hq) (nbeq h)) rfl rfl rfl)) (.old rfl rfl (GB.one (.cons (.imm rfl) (.cons (.imm rfl) (.cons (.rs rfl rfl rfl rfl) .nil))) (fun e => by cases e)) (.old rfl rfl (GB_blk1 _) .nil))))
      · intro j b e
        obtain ⟨p, rfl, hp, hp2, rfl⟩ := blkF1_some e
        exact HOk.mk rfl (b0 := blkR1 ((curL foldBlock fs i).getD p default).blocks) (show blkF1 (curL foldBlock fs i) (fun j => !(Nat.beq j i)) (1000, p, 0) = _ from blkF1_at hp hp2) (GB_blk1 _)
    intro k hk
    (repeat' ((fail_if_success (show AWp _ _ _ (Code.region 10 _ _) _ _)); first | refine AWp_seq ?_ | (refine AWp_reg tok (by rfl) ?_; conv => whnf) | refine AWp_block ?_ | (refine AWp_skip ?_; conv => whnf) | (refine AWp_exit ?_; conv => whnf) | refine AWp_cond rfl (fun hb => ?_) (fun hb => ?_)))
    · have hkl : k < (fs.getD i default).blocks.length := by simp only [decide_eq_true_eq] at hb; omega
      clear hb
      have hzk : 0 + (k : Int).toNat = k := by simp
      have hml : (mapB foldBlock (fs.getD i default).blocks k).length = (fs.getD i default).blocks.length := mapB_len _ _
      ((repeat' first | (refine AWp_any tok mix (by rfl) ?_; conv => whnf) | (refine @And.intro (underG _ _ _ _) _ ?_ ?_; rotate_left; (conv => whnf); rotate_right)); all_goals (try ((guard_target = underG _ _ _ _); refine underG_none ?_; (all_goals (try simp only [underG, true_and, and_true, Bool.cond_true_left, Bool.cond_false_left, Bool.cond_true_right, Bool.cond_false_right, Bool.or_eq_true, Bool.and_eq_true, Bool.or_eq_false_iff, Bool.and_eq_false_iff, cond_true, cond_false, Bool.not_eq_eq_eq_not, Bool.not_true, Bool.not_false, decide_eq_true_eq, decide_eq_false_iff_not, Int.toNat_natCast, Nat.zero_add, Decidable.not_not, maxL, inn_iff] at *)); all_goals omega)))
      refine .inl ⟨_, _, _, uG (QC.fc (c_Block ((mapB foldBlock (fs.getD i default).blocks k).getD (0 + (k : Int).toNat) default)) rfl), ?_⟩
      conv => whnf
      ((repeat' first | (refine AWp_reg tok (by rfl) ?_; conv => whnf) | (refine @And.intro (underG _ _ _ _) _ ?_ ?_; rotate_left; (conv => whnf); rotate_right)); all_goals (try ((guard_target = underG _ _ _ _); refine underG_none ?_; (all_goals (try simp only [underG, true_and, and_true, Bool.cond_true_left, Bool.cond_false_left, Bool.cond_true_right, Bool.cond_false_right, Bool.or_eq_true, Bool.and_eq_true, Bool.or_eq_false_iff, Bool.and_eq_false_iff, cond_true, cond_false, Bool.not_eq_eq_eq_not, Bool.not_true, Bool.not_false, decide_eq_true_eq, decide_eq_false_iff_not, Int.toNat_natCast, Nat.zero_add, Decidable.not_not, maxL, inn_iff] at *)); all_goals omega)))
      refine ⟨k + 1, hkl, by omega, ?_⟩
      refine Weak.fam [] rfl (fun i hi => by cases hi) ?_ ?_ ?_ (fun i hi => by cases hi)
      · (repeat' first | exact TLg.nil | refine TLg.cons (GV.imm rfl) ?_ | refine TLg.cons (GV.bp rfl rfl) ?_ | refine TLg.cons (GV.rs rfl rfl ?_ ?_) ?_ | refine TLg.cons (GV.int ?_) ?_)
        all_goals first | rfl | (simp (disch := omega) only [wrap64]; omega) | omega
      · refine .old rfl rfl (GB.one (.cons (.rs rfl rfl rfl rfl) .nil) (fun e => by cases e)) (.old rfl rfl (GB.one (GVs.imm rfl) (fun _ => rfl)) (.old rfl rfl (GB_fun1 (fun q hq => keep1 (b := blkR1 ((curL foldBlock fs i).getD q default).blocks) (fun h => show blkF1 (curL foldBlock fs i) (fun j => !(Nat.beq j i)) (1000, q, 0) = _ from blkF1_at (by rw [curL_len]; exact hq) (nbeq h)) rfl rfl rfl)) (.old rfl rfl (GB.one (.cons (.imm rfl) (.cons (.imm rfl) (.cons (.rs rfl rfl rfl rfl) .nil))) (fun e => by cases e)) (.old rfl rfl (GB.row (Nat.le_of_eq (by rw [mapB_len, mapB_len])) (fun q hq => GVs.upd (fun e => ?_) (fun e => ?_)) (fun _ _ _ => rfl)) .nil))))
        · rw [hzk] at e; subst e
          rw [mapB_len] at hq
          exact GVs.eqI rfl (by rw [hzk, mapB_at hq, if_neg (Nat.lt_irrefl q), mapB_at hq, if_pos (Nat.lt_succ_self q)]; rfl)
        · rw [hzk] at e
          rw [mapB_len] at hq
          refine GVs.eqI rfl ?_
          rw [mapB_at hq, mapB_at hq]
          by_cases h1 : q < k
          · rw [if_pos h1, if_pos (by omega)]
          · rw [if_neg h1, if_neg (by omega)]
      · intro j b e
        obtain ⟨p, rfl, hp, hp2, rfl⟩ := blkF1_some e
        exact HOk.mk rfl (b0 := blkR1 ((curL foldBlock fs i).getD p default).blocks) (show blkF1 (curL foldBlock fs i) (fun j => !(Nat.beq j i)) (1000, p, 0) = _ from blkF1_at hp hp2) (GB_blk1 _)
    · have hkl : k = (fs.getD i default).blocks.length := by simp only [decide_eq_false_iff_not] at hb; omega
      clear hb
      subst hkl
      skip
      refine ⟨i + 1, hlt, by omega, ?_⟩
      refine Weak.fam [((1000, i, 0), some (901, 0, 0))] rfl (fun c hc => by simp only [tgts, List.mem_singleton] at hc; subst hc; exact .inl rfl) ?_ ?_ ?_ (fun i hi => by cases hi)
      · (repeat' first | exact TLg.nil | refine TLg.cons (GV.imm rfl) ?_ | refine TLg.cons (GV.bp rfl rfl) ?_ | refine TLg.cons (GV.rs rfl rfl ?_ ?_) ?_ | refine TLg.cons (GV.int ?_) ?_)
        all_goals first | rfl | (simp (disch := omega) only [wrap64]; omega) | omega
      · refine .old rfl rfl (GB.one (.cons (.rs rfl rfl rfl rfl) .nil) (fun e => by cases e)) (.old rfl rfl (GB.one (GVs.imm rfl) (fun _ => rfl)) (.old rfl rfl (GB_fun1 (fun q hq => ?_)) .nil))
        by_cases e : q = i
        · subst e
          exact .cc (show sel (Nat.beq q q) _ _ = _ from sel_eq) rfl (.rs (b := blkR1 ((curL foldBlock fs (q + 1)).getD q default).blocks) (show blkF1 (curL foldBlock fs (q + 1)) (fun _ => true) (1000, q, 0) = _ from blkF1_at (by rw [curL_len]; exact hq) rfl) srcL_hit rfl rfl)
        · exact .cc (show sel (Nat.beq q i) _ _ = _ from sel_ne e) rfl (.rs (b := blkR1 ((curL foldBlock fs (i + 1)).getD q default).blocks) (show blkF1 (curL foldBlock fs (i + 1)) (fun _ => true) (1000, q, 0) = _ from blkF1_at (by rw [curL_len]; exact hq) rfl) (srcL_miss (fun h => e (by cases h; rfl))) rfl rfl)
      · intro j b e
        obtain ⟨p, rfl, hp, hp2, rfl⟩ := blkF1_some e
        rw [curL_len] at hp
        by_cases e : p = i
        · subst e
          refine HOk.mk srcL_hit (b0 := blkR1 (mapB foldBlock (fs.getD p default).blocks (fs.getD p default).blocks.length)) rfl ?_
          rw [curL_at hp, if_pos (Nat.lt_succ_self p)]
          exact GB_blk1 _
        · refine HOk.mk (srcL_miss (fun h => e (by cases h; rfl))) (b0 := blkR1 ((curL foldBlock fs i).getD p default).blocks) (show blkF1 (curL foldBlock fs i) (fun j => !(Nat.beq j i)) (1000, p, 0) = _ from blkF1_at (by rw [curL_len]; exact hp) (nbeq e)) ?_
          rw [curL_at hp, curL_at hp]
          by_cases h1 : p < i
          · rw [if_pos h1, if_pos (by omega)]; exact GB_blk1 _
          · rw [if_neg h1, if_neg (by omega)]; exact GB_blk1 _
  · have hil : i = fs.length := by simp only [decide_eq_false_iff_not] at hb; omega
    clear hb
    subst hil
    refine ⟨_, rfl, Rel.tup (.cons ?_ (.cons (Rel.int (by simp [errM, hr])) .nil))⟩
    rw [show doneM foldBlock ⟨fs⟩ = ⟨curL foldBlock fs fs.length⟩ from by rw [curL_all]; simp [doneM, hr]]
    exact rel_mod (curL_len _ _) (fun j hj => ⟨(curL_sig hj).1, (curL_sig hj).2, curL_blen hj⟩) rfl (fun j hj => show blkF1 (curL foldBlock fs fs.length) (fun _ => true) (1000, j, 0) = _ from blkF1_at (by rw [curL_len]; exact hj) rfl)
end Go.Proofs.Ytmanpbgaihdalaa
namespace Go.Proofs.Ytmanpbgaihdalaa
open Go Dv Go.ChangeShapes Go.WideShapes Go.ChangeAt Go.RowKit
open Go.Proofs.Ytmanpbgaihdalaa
set_option maxRecDepth 10000
set_option linter.unusedVariables false
section
variable {H : Type} {enc : TypeId × Value → H} {w : World}
abbrev Sm (H : Type) : DataW H → Prop := fun d => Rows.uptoBulk d ≤ 1048576
theorem bulk_all {ds : List (DataW H)} {n : Nat} (h : Rows.uptoBulkAll ds ≤ n) : ∀ d ∈ ds, Rows.uptoBulk d ≤ n := by
  induction ds with
  | nil => intro d hd; cases hd
  | cons x r ih =>
    simp only [Rows.uptoBulkAll] at h
    intro d hd
    simp only [List.mem_cons] at hd
    rcases hd with rfl | hd
    · omega
    · exact ih (by omega) d hd
theorem bulk_pos (d : DataW H) : 1 ≤ Rows.uptoBulk d := by
  cases d with
  | lit l => cases l <;> simp only [Rows.uptoBulk] <;> omega
  | _ => simp only [Rows.uptoBulk]; omega
theorem bulk_len {ds : List (DataW H)} {n : Nat} (h : Rows.uptoBulkAll ds ≤ n) : ds.length ≤ n := by
  induction ds generalizing n with
  | nil => simp
  | cons x r ih =>
    simp only [Rows.uptoBulkAll] at h
    have := bulk_pos x
    have := ih (n := n - Rows.uptoBulk x) (by omega)
    simp only [List.length_cons]; omega
theorem sm_agg (ds : List (DataW H)) (h : Sm H (.agg ds)) : ∀ d ∈ ds, Sm H d := by
  simp only [Sm, Rows.uptoBulk] at h; exact bulk_all (by omega)
theorem sm_slice (es sp : List (DataW H)) (h : Sm H (.slice es sp)) : es.length ≤ maxL ∧ ∀ x ∈ es, Sm H x := by
  simp only [Sm, Rows.uptoBulk] at h
  have h1 : Rows.uptoBulkAll es ≤ 1048576 := by omega
  exact ⟨Nat.le_trans (bulk_len h1) (by decide), bulk_all h1⟩
theorem rd_int : Rd enc Try.prog w (Sm H) 3 Int (fun n => [iv n]) := Rd.int Try.underlying3
theorem rd_u16 : Rd enc Try.prog w (Sm H) 55 Int (fun n => [.int .u16 n]) := Rd.int Try.underlying55
theorem rd_bool : Rd enc Try.prog w (Sm H) 4 Bool (fun b => [.bool b]) := Rd.bool Try.underlying4
theorem rd_ints : Rd enc Try.prog w (Sm H) 31 (List Int) (fun l => [ints l]) := Rd.slice Try.underlying31 (by decide +kernel) (Nat.le_refl _) (fun _ => ⟨rfl, rfl⟩) rd_int sm_slice
theorem rd_u16s : Rd enc Try.prog w (Sm H) 37 (List Int) (fun l => [u16s l]) := Rd.slice Try.underlying37 (by decide +kernel) (Nat.le_refl _) (fun _ => ⟨rfl, rfl⟩) rd_u16 sm_slice
theorem rd_Ins : Rd enc Try.prog w (Sm H) 57 Ins encIns :=
  Rd.map (fun x => ⟨x.1, x.2.1, x.2.2.1, x.2.2.2.1, x.2.2.2.2.1, x.2.2.2.2.2.1, x.2.2.2.2.2.2.1⟩)
    (Rd.struct (fl := [(3, 1), (3, 1), (3, 1), (3, 1), (55, 1), (3, 1), (31, 1)]) Try.underlying57 (.cons rd_int (.cons rd_int (.cons rd_int (.cons rd_int (.cons rd_u16 (.cons rd_int (.cons rd_ints .nil)))))))
      rfl (by decide +kernel) (by decide +kernel) sm_agg) (fun _ => rfl)
theorem rd_inss : Rd enc Try.prog w (Sm H) 40 (List Ins) (fun l => [inss l]) := Rd.slice Try.underlying40 (by decide +kernel) (by decide) (fun _ => ⟨rfl, rfl⟩) rd_Ins sm_slice
theorem rd_End : Rd enc Try.prog w (Sm H) 36 End encEnd :=
  Rd.map (fun x => ⟨x.1, x.2.1, x.2.2.1, x.2.2.2.1, x.2.2.2.2.1, x.2.2.2.2.2.1, x.2.2.2.2.2.2.1, x.2.2.2.2.2.2.2.1⟩)
    (Rd.struct (fl := [(3, 1), (3, 1), (3, 1), (3, 1), (31, 1), (3, 1), (3, 1), (3, 1)]) Try.underlying36 (.cons rd_int (.cons rd_int (.cons rd_int (.cons rd_int (.cons rd_ints (.cons rd_int (.cons rd_int (.cons rd_int .nil))))))))
      rfl (by decide +kernel) (by decide +kernel) sm_agg) (fun _ => rfl)
theorem rd_Pad : Rd enc Try.prog w (Sm H) 39 Pad encPad :=
  Rd.map (fun x => ⟨x.1, x.2.1, x.2.2.1, x.2.2.2.1⟩)
    (Rd.struct (fl := [(3, 1), (37, 1), (4, 1), (4, 1)]) Try.underlying39 (.cons rd_int (.cons rd_u16s (.cons rd_bool (.cons rd_bool .nil))))
      rfl (by decide +kernel) (by decide +kernel) sm_agg) (fun _ => rfl)
theorem rd_Block : Rd enc Try.prog w (Sm H) 42 Block encBlock :=
  Rd.map (fun x => ⟨x.1, x.2.1, x.2.2.1, x.2.2.2.1⟩)
    (Rd.struct (fl := [(4, 1), (39, 4), (40, 1), (36, 8)]) Try.underlying42 (.cons rd_bool (.cons rd_Pad (.cons rd_inss (.cons rd_End .nil))))
      rfl (by decide +kernel) (by decide +kernel) sm_agg) (fun _ => rfl)
theorem rd_blocks : Rd enc Try.prog w (Sm H) 32 (List Block) (fun l => [blockss l]) := Rd.slice Try.underlying32 (by decide +kernel) (by decide) (fun _ => ⟨rfl, rfl⟩) rd_Block sm_slice
theorem rd_Func : Rd enc Try.prog w (Sm H) 34 Func encFunc :=
  Rd.map (fun x => ⟨x.1, x.2.1, x.2.2.1⟩)
    (Rd.struct (fl := [(3, 1), (3, 1), (32, 1)]) Try.underlying34 (.cons rd_int (.cons rd_int (.cons rd_blocks .nil)))
      rfl (by decide +kernel) (by decide +kernel) sm_agg) (fun _ => rfl)
theorem rd_funcs : Rd enc Try.prog w (Sm H) 22 (List Func) (fun l => [funcss l]) := Rd.slice Try.underlying22 (by decide +kernel) (by decide) (fun _ => ⟨rfl, rfl⟩) rd_Func sm_slice
theorem rd_Module : Rd enc Try.prog w (Sm H) 24 Module encMod :=
  Rd.map (fun x => ⟨x.1⟩)
    (Rd.struct (fl := [(22, 1)]) Try.underlying24 (.cons rd_funcs .nil)
      rfl (by decide +kernel) (by decide +kernel) sm_agg) (fun _ => rfl)
end
theorem small_of {H : Type} {ds gs : List (DataW H)} (hk : Rows.uptoSmall H (ds ++ gs) = true) : ∀ d ∈ ds, Sm H d := by
  have h := of_decide_eq_true hk
  exact fun d hd => bulk_all h d (List.mem_append_left _ hd)
end Go.Proofs.Ytmanpbgaihdalaa
namespace Go.Proofs.Ytmanpbgaihdalaa
open Go Dv
set_option maxRecDepth 10000
set_option linter.unusedSimpArgs false
def awB : Block := { landing := false, pad := ⟨0, [], false, false⟩, ins := [⟨1, 0, 0, 0, 3, 0, []⟩, ⟨1, 1, 0, 0, 4, 0, []⟩, ⟨3, 2, 0, 1, 0, 0, []⟩], fin := ⟨3, 2, 0, 0, [], 5, 6, 0⟩ }
theorem c_awake16 : FC Try.prog 47 [] (.bool true) := by
  refine FC_intro tok Try.func47 rfl (by decide +kernel) (Nat.le_of_ble_eq_true rfl) ?_
  (repeat' first | refine AWp_seq ?_ | (refine AWp_reg tok (by rfl) ?_; conv => whnf))
  refine .inr ⟨_, _, _, uG (QH.give (args' := [.agg (encBlock awB)]) (rd := [freshD (some 5)]) (c_Block awB) (.cons (.agg (.cons (.imm rfl) (.cons (.imm rfl) (.cons .nsl (.cons (.imm rfl) (.cons (.imm rfl) (.cons (.rsW rfl (by simp) (Nat.le_refl _) rfl (fun x hx => ?_)) (.cons (.imm rfl) (.cons (.imm rfl) (.cons (.imm rfl) (.cons (.imm rfl) (.cons .nsl (.cons (.imm rfl) (.cons (.imm rfl) (.cons (.imm rfl) .nil))))))))))))))) .nil) rfl), ?_⟩
  · match x, hx with
    | 0, _ => (repeat' ((conv => arg 1; whnf); (conv => arg 2; whnf); first | refine Wks.cons .refl ?_ | refine Wks.cons (.nsl rfl) ?_ | exact Wks.nil))
    | 1, _ => (repeat' ((conv => arg 1; whnf); (conv => arg 2; whnf); first | refine Wks.cons .refl ?_ | refine Wks.cons (.nsl rfl) ?_ | exact Wks.nil))
    | 2, _ => (repeat' ((conv => arg 1; whnf); (conv => arg 2; whnf); first | refine Wks.cons .refl ?_ | refine Wks.cons (.nsl rfl) ?_ | exact Wks.nil))
  rw [show foldBlock awB = ⟨false, ⟨0, [], false, false⟩, [⟨1, 0, 0, 0, 3, 0, []⟩, ⟨1, 1, 0, 0, 4, 0, []⟩, ⟨1, 2, 0, 0, 7, 0, []⟩], ⟨2, 0, 0, 0, [], 5, 0, 0⟩⟩ from by rfl]
  conv => whnf
  ((repeat' first | refine AWp_seq ?_ | (refine AWp_reg tok (by rfl) ?_; conv => whnf) | (refine AWp_ret ?_; conv => whnf) | (refine @And.intro (underG _ _ _ _) _ ?_ ?_; rotate_left; (conv => whnf); rotate_right)); all_goals (try ((guard_target = underG _ _ _ _); ((refine underG_some ?_; intro hgd; (conv at hgd => whnf); (try simp (disch := omega) only [wrap64] at hgd))); (all_goals (try simp only [underG, true_and, and_true, Bool.cond_true_left, Bool.cond_false_left, Bool.cond_true_right, Bool.cond_false_right, Bool.or_eq_true, Bool.and_eq_true, Bool.or_eq_false_iff, Bool.and_eq_false_iff, cond_true, cond_false, Bool.not_eq_eq_eq_not, Bool.not_true, Bool.not_false, decide_eq_true_eq, decide_eq_false_iff_not, Int.toNat_natCast, Nat.zero_add, Decidable.not_not, maxL, inn_iff] at *)); all_goals omega)))
  exact ⟨_, rfl, Rel.bool rfl⟩
def oneM16 (b : Block) : Module := ⟨[⟨0, 0, [b]⟩]⟩
theorem c_one16 (b : Block) : FC Try.prog 48 [.agg (encBlock b)] (.agg (encMod (oneM16 b))) := by
  refine FC_intro tok Try.func48 rfl (by decide +kernel) (Nat.le_of_ble_eq_true rfl) ?_
  (repeat' first | refine AWp_seq ?_ | (refine AWp_reg tok (by rfl) ?_; conv => whnf) | (refine AWp_ret ?_; conv => whnf))
  refine ⟨_, rfl, Rel.agg (Rels.cons (Rel.rs rfl (Nat.le_refl _) (ltS ?_ lt0)) Rels.nil)⟩
  exact Rels.cons (Rel.imm rfl) (Rels.cons (Rel.imm rfl) (Rels.cons (Rel.rs rfl (Nat.le_refl _) (ltS (Rels.imm rfl) lt0)) Rels.nil))
theorem c_FoldRight (m : Module) (b : Block) : FC Try.prog 10 [.agg (encMod m), .agg (encBlock b)] (.bool true) := by
  refine FC_intro tok Try.func10 rfl (by decide +kernel) (Nat.le_of_ble_eq_true rfl) ?_
  (repeat' first | refine AWp_seq ?_ | (refine AWp_reg tok (by rfl) ?_; conv => whnf))
  refine .inl ⟨_, _, _, uG (QC.fc c_awake16 rfl), ?_⟩
  conv => whnf
  (repeat' first | refine AWp_seq ?_ | (refine AWp_reg tok (by rfl) ?_; conv => whnf) | (refine AWp_skip ?_; conv => whnf) | (refine AWp_ret ?_; conv => whnf) | refine AWp_cond rfl (fun hb => ?_) (fun hb => ?_))
  · cases hb
  clear hb
  refine .inl ⟨_, _, _, uG (QC.fc (c_Short m) rfl), ?_⟩
  conv => whnf
  skip
  refine .inl ⟨_, _, _, uG (QC.fc (c_one16 b) rfl), ?_⟩
  conv => whnf
  skip
  refine .inl ⟨_, _, _, uG (QC.fc (c_Short (oneM16 b)) rfl), ?_⟩
  conv => whnf
  (repeat' first | refine AWp_seq ?_ | (refine AWp_reg tok (by rfl) ?_; conv => whnf) | (refine AWp_any tok mix (by rfl) ?_; conv => whnf) | (refine AWp_skip ?_; conv => whnf) | (refine AWp_ret ?_; conv => whnf) | refine AWp_cond rfl (fun hb => ?_) (fun hb => ?_))
  · exact ⟨_, rfl, Rel.bool rfl⟩
  clear hb
  refine .inl ⟨_, _, _, uG (QC.fc (c_CopyF m) rfl), ?_⟩
  conv => whnf
  skip
  refine .inl ⟨_, _, _, uG (QC.fc (c_one16 b) rfl), ?_⟩
  conv => whnf
  skip
  refine .inl ⟨_, _, _, uG (QC.fc (c_CopyF (oneM16 b)) rfl), ?_⟩
  conv => whnf
  (repeat' first | refine AWp_seq ?_ | (refine AWp_reg tok (by rfl) ?_; conv => whnf))
  refine .inl ⟨_, _, _, uG (QC.fc (c_fModule m) rfl), ?_⟩
  conv => whnf
  (repeat' first | refine AWp_seq ?_ | (refine AWp_any tok mix (by rfl) ?_; conv => whnf))
  refine .inl ⟨_, _, _, uG (QC.fc (c_Block b) rfl), ?_⟩
  conv => whnf
  skip
  refine .inl ⟨_, _, _, uG (QC.fc (c_one16 (foldBlock b)) rfl), ?_⟩
  conv => whnf
  skip
  refine .inl ⟨_, _, _, uG (QC.fc (c_r16Block b) rfl), ?_⟩
  conv => whnf
  skip
  refine .inl ⟨_, _, _, uG (QC.fc (c_one16 (ref16B b)) rfl), ?_⟩
  conv => whnf
  skip
  refine .inl ⟨_, _, _, uG (QC.fc (c_rSame (oneM16 (foldBlock b)) (oneM16 (ref16B b))) rfl), ?_⟩
  conv => whnf
  skip
  refine .inl ⟨_, _, _, uG (QC.fc (c_rSame m m) rfl), ?_⟩
  conv => whnf
  skip
  refine .inl ⟨_, _, _, uG (QC.fc (c_one16 b) rfl), ?_⟩
  conv => whnf
  skip
  refine .inl ⟨_, _, _, uG (QC.fc (c_rSame (oneM16 b) (oneM16 b)) rfl), ?_⟩
  conv => whnf
  (repeat' first | refine AWp_seq ?_ | (refine AWp_reg tok (by rfl) ?_; conv => whnf) | (refine AWp_skip ?_; conv => whnf) | (refine AWp_ret ?_; conv => whnf) | refine AWp_cond rfl (fun hb => ?_) (fun hb => ?_))
  · rw [ref16B_eq] at hb; simp at hb
  clear hb
  refine .inl ⟨_, _, _, uG (QC.fc (c_Right m) rfl), ?_⟩
  conv => whnf
  (repeat' first | refine AWp_seq ?_ | (refine AWp_reg tok (by rfl) ?_; conv => whnf) | (refine AWp_any tok mix (by rfl) ?_; conv => whnf) | (refine AWp_skip ?_; conv => whnf) | refine AWp_cond rfl (fun hb => ?_) (fun hb => ?_))
  · have hr : rightB m = false := by simpa using hb
    refine .inl ⟨_, _, _, uG (QC.fc (c_rSame (doneM foldBlock m) m) rfl), ?_⟩
    conv => whnf
    (repeat' (refine AWp_ret ?_; conv => whnf))
    refine ⟨_, rfl, Rel.bool ?_⟩
    simp [errM, doneM, hr]
  have hr : rightB m = true := by simpa using hb
  refine .inl ⟨_, _, _, uG (QC.fc (c_r16Module m) rfl), ?_⟩
  conv => whnf
  skip
  refine .inl ⟨_, _, _, uG (QC.fc (c_rSame (doneM foldBlock m) (passM ref16B m)) rfl), ?_⟩
  conv => whnf
  (repeat' (refine AWp_ret ?_; conv => whnf))
  refine ⟨_, rfl, Rel.bool ?_⟩
  have : ref16B = foldBlock := funext ref16B_eq
  rw [this]
  simp [errM, doneM, hr]
end Go.Proofs.Ytmanpbgaihdalaa
namespace Go.Proofs.Ytmanpbgaihdalaa
open Go Dv Go.ChangeShapes Go.WideShapes Go.ChangeAt Go.RowKit
open Go.Proofs.Ytmanpbgaihdalaa
set_option maxRecDepth 100000
set_option linter.unusedVariables false
namespace foldRight
theorem own : ownKnob Try.prog.godebug = none := by kernel_rfl
theorem contract (H : Type) (enc : TypeId × Value → H) (W : World) (base : Nat) (args : Array Value) (ds gs : List (DataW H)) (before : List MemPlace) (hk : Rows.uptoSmall H (ds ++ gs) = true)
    (hval : ∀ (j : Nat) t v, Try.f10.params[j]? = some t → args[j]? = some v → Value.okWide Try.prog W .any base t v)
    (hW : DataW.Whole enc Try.prog Try.f10.params.toList Rows.foldRightSpec.vars false W args.toList ds gs before) :
    Calls Try.prog 10 args W fun e W' => ∃ v, e = .returned v ∧ Rows.foldRightSpec.post enc Try.prog Try.f10 false true false false W args v W' := by
  have hsm := small_of hk
  have hW' := hW
  obtain ⟨p, q, hA0, hV, rfl, hfz, hnd⟩ := hW
  have hA : DataW.TrodAll enc Try.prog W 0 (fun _ => true) true Try.f10.params.toList args.toList ds p := hA0
  rw [Try.params10] at hA hval
  obtain ⟨v0, vs0, d0, ds0, p0, q0, hargs, rfl, rfl, h0, r0⟩ := trodAll_cons hA
  obtain ⟨v1, vs1, d1, ds1, p1, q1, rfl, rfl, rfl, h1, r1⟩ := trodAll_cons r0
  obtain ⟨rfl, rfl, rfl⟩ := trodAll_nil r1
  obtain rfl : args = #[v0, v1] := by cases args; simp_all
  obtain ⟨x0, hx0⟩ := arg_struct Try.underlying24 (hval 0 _ v0 rfl rfl) h0 rd_Module (hsm d0 (by simp))
  obtain ⟨x1, hx1⟩ := arg_struct Try.underlying42 (hval 1 _ v1 rfl rfl) h1 rd_Block (hsm d1 (by simp))
  obtain ⟨rfl, rfl⟩ := trodVars_none hV
  refine law_contract (tb := 4) (by decide +kernel) (by rw [Try.params10]; decide +kernel) rfl (by kernel_rfl) Try.underlying4 hW' ⟨rfl, rfl, rfl⟩ (FC.calls (c_FoldRight x0 x1) ?_)
  simp only [Vs]
  exact ⟨_, _, rfl, hx0, _, _, rfl, hx1, rfl⟩
theorem lifted (os : Os) (started : os.Started) (H : Type) (enc : TypeId × Value → H) (F : Stop.Interp) :
    ReturnsInHanded {} Try.checked os 10 .any ((Rows.OpenSpec.upto Rows.foldRightSpec).pre6 enc Try.prog Try.f10 Rows.foldRightUptoRow.domain false) (((Rows.OpenSpec.upto Rows.foldRightSpec).at F).post enc Try.prog Try.f10 false true false false) := by
  refine returnsInHanded_of_cond (C := Try.checked) (s := Rows.OpenSpec.upto Rows.foldRightSpec) (k := Rows.uptoSmall) rfl own started (by kernel_rfl) Try.func10
    (OpenSpec.witness (enc := enc) (C := Try.checked) (s := Rows.OpenSpec.upto Rows.foldRightSpec) (k := Rows.uptoSmall) rfl false ⟨#[], #[.agg #[.slice none 0 0], .agg #[.bool false, .int .i64 0, .slice none 0 0, .bool false, .bool false, .slice none 0 0, .int .i64 0, .int .i64 0, .int .i64 0, .int .i64 0, .slice none 0 0, .int .i64 0, .int .i64 0, .int .i64 0]], []⟩ 64 (by kernel_rfl) (by kernel_rfl) (by kernel_rfl)
      (x := ([.agg [.nil], .agg [.lit (.bool false), .agg [.lit (.int .i64 0), .nil, .lit (.bool false), .lit (.bool false)], .nil, .agg [.lit (.int .i64 0), .lit (.int .i64 0), .lit (.int .i64 0), .lit (.int .i64 0), .nil, .lit (.int .i64 0), .lit (.int .i64 0), .lit (.int .i64 0)]]], [], [])) (by kernel_rfl) rfl (by kernel_rfl)) ?_
  intro W base args ds gs before hval hW _ hk _
  exact contract H enc W base args ds gs before hk hval hW
theorem over : Rows.foldRightUptoRow.holds Try.pinned (Rows.OpenSpec.upto Rows.foldRightSpec) :=
  OpenClaim.holds_of_cond 10 Try.f10 rfl rfl rfl rfl rfl rfl rfl ⟨rfl, rfl, rfl, rfl, rfl⟩ rfl rfl rfl rfl rfl (by kernel_rfl) Try.func10 (by kernel_rfl)
    (of_decide_eq_true (by kernel_rfl)) (by unfold Func.isWrapper; first | (rw [if_pos (by decide +kernel)]; kernel_rfl) | (rw [if_neg (by decide +kernel)]; exact ⟨rfl, rfl⟩))
    (fun os started H enc _ F => lifted os started H enc F)
end foldRight
theorem foldRight_holds : Rows.FoldRightUptoSaid := foldRight.over
end Go.Proofs.Ytmanpbgaihdalaa
