/- Whatever a module, the words told to it, and the steps: each frame of the machine stands at a block that is reached, as flow.Reached tells; a module that may not be is refused. -/
import Derived.Test.YtoelbgjpmpoolaaGreatDvc3
import Derived.Test.YtoelbgjpmpoolaaGreatLawflowReaches1
import Derived.RangeFuncGives
import Derived.Maps.AppendAt
import Derived.Shelf.Abstract
import Derived.WalkKit
import Derived.OwnWalkIn
import Derived.TacticsInMore
import Derived.RegionIn
import Derived.LoopNIn
import Derived.LoopIn
set_option linter.unusedVariables false
set_option linter.unusedSimpArgs false
set_option linter.unnecessarySimpa false
namespace Go.Proofs.YtoelbgjpmpoolaaGreat
open Go Dv
set_option linter.unusedSimpArgs false
def Zfl (x : Ins) (p : Int) : Prop := x.op ≠ 10 ∧ x.op ≠ 12 ∧ x.dst = p
instance (x : Ins) (p : Int) : Decidable (Zfl x p) := by unfold Zfl; infer_instance
def alikeP (x y : Ins) : Prop := x.op = y.op ∧ 3 ≤ x.op ∧ x.op ≤ 8 ∧ ((x.a = y.a ∧ x.b = y.b) ∨ ((x.op = 3 ∨ x.op = 5 ∨ x.op = 7) ∧ x.a = y.b ∧ x.b = y.a))
instance (x y : Ins) : Decidable (alikeP x y) := by unfold alikeP; infer_instance
def keptAt (l : List Ins) (i k : Nat) : Prop := ¬ Zfl (l.getD k default) (l.getD i default).a ∧ ¬ Zfl (l.getD k default) (l.getD i default).b ∧ (i < k → ¬ Zfl (l.getD k default) (l.getD i default).dst)
instance (l : List Ins) (i k : Nat) : Decidable (keptAt l i k) := by unfold keptAt; infer_instance
def keptP (l : List Ins) (i : Nat) : Prop := ∀ k, k < l.length → i ≤ k → keptAt l i k
instance (l : List Ins) (i : Nat) : Decidable (keptP l i) := by unfold keptP; infer_instance
theorem twoO_iff {op : Int} : twoO op = true ↔ 3 ≤ op ∧ op ≤ 8 := by
  unfold twoO; cases h : decide (2 < op) <;> simp at h ⊢ <;> omega
theorem hit_of {x : Ins} {p v : Int} : hit p ((ofD x).l, v) = true ↔ x.a = p ∨ x.b = p ∨ v = p := by
  unfold hit ofD Deed.l
  split <;> simp [or_assoc] <;> omega
theorem mlook_mem {m : Mp} {k : List Int} {v : Int} (h : Zb9 m k = some v) : (k, v) ∈ m := by
  induction m with
  | nil => cases h
  | cons q r ih =>
    obtain ⟨a, b⟩ := q
    simp only [Zb9] at h
    split at h
    · rename_i e; subst e; cases h; simp
    · exact List.mem_cons_of_mem _ (ih h)
theorem mem_mlook {m : Mp} (hn : (m.map (·.1)).Nodup) {k : List Int} {v : Int} (h : (k, v) ∈ m) : Zb9 m k = some v := by
  induction m with
  | nil => cases h
  | cons q r ih =>
    obtain ⟨a, b⟩ := q
    simp only [List.map_cons, List.nodup_cons] at hn
    simp only [Zb9]
    rcases List.mem_cons.1 h with e | e
    · cases e; simp
    · split
      · rename_i e2; subst e2; exact absurd (List.mem_map.2 ⟨_, e, rfl⟩) hn.1
      · exact ih hn.2 e
theorem mlook_forget {m : Mp} (hn : (m.map (·.1)).Nodup) {p : Int} {k : List Int} {v : Int} : Zb9 (Zdd m p) k = some v ↔ Zb9 m k = some v ∧ hit p (k, v) = false := by
  have hn2 : ((Zdd m p).map (·.1)).Nodup := by
    unfold Zdd
    exact (List.Sublist.map _ List.filter_sublist).nodup hn
  constructor
  · intro h
    have := mlook_mem h
    unfold Zdd at this
    rw [List.mem_filter] at this
    exact ⟨mem_mlook hn this.1, by simpa using this.2⟩
  · rintro ⟨h1, h2⟩
    refine mem_mlook hn2 ?_
    unfold Zdd
    rw [List.mem_filter]
    exact ⟨mlook_mem h1, by simp [h2]⟩
theorem mlook_mput {m : Mp} {k k' : List Int} {v : Int} : Zb9 (mput m k v) k' = if k = k' then some v else Zb9 m k' := by
  induction m with
  | nil => simp [mput, Zb9]
  | cons q r ih =>
    obtain ⟨a, b⟩ := q
    simp only [mput]
    by_cases e : a = k
    · subst e
      simp only [if_true, Zb9]
      by_cases e2 : a = k'
      · simp [e2]
      · simp [e2]
    · simp only [if_neg e, Zb9]
      by_cases e2 : a = k'
      · subst e2; simp; exact fun h => absurd h.symm e
      · simp only [if_neg e2]; exact ih
theorem mem_mput {m : Mp} {k : List Int} {v : Int} {q : List Int × Int} (h : q ∈ mput m k v) : q = (k, v) ∨ q ∈ m := by
  induction m with
  | nil => simp [mput] at h; exact .inl h
  | cons p r ih =>
    obtain ⟨a, b⟩ := p
    simp only [mput] at h
    split at h
    · rcases List.mem_cons.1 h with h | h
      · exact .inl h
      · exact .inr (List.mem_cons_of_mem _ h)
    · rcases List.mem_cons.1 h with h | h
      · exact .inr (h ▸ List.mem_cons_self)
      · rcases ih h with h | h
        · exact .inl h
        · exact .inr (List.mem_cons_of_mem _ h)
theorem mput_keys {m : Mp} {k : List Int} {v : Int} (hn : (m.map (·.1)).Nodup) : ((mput m k v).map (·.1)).Nodup := by
  induction m with
  | nil => simp [mput]
  | cons q r ih =>
    obtain ⟨a, b⟩ := q
    simp only [List.map_cons, List.nodup_cons] at hn
    simp only [mput]
    by_cases e : a = k
    · subst e; simp only [if_true, List.map_cons, List.nodup_cons]; exact hn
    · simp only [if_neg e, List.map_cons, List.nodup_cons]
      refine ⟨fun h => ?_, ih hn.2⟩
      rw [List.mem_map] at h
      obtain ⟨⟨c, d⟩, h1, h2⟩ := h
      simp only at h2; subst h2
      rcases mem_mput h1 with h3 | h3
      · cases h3; exact e rfl
      · exact hn.1 (List.mem_map.2 ⟨_, h3, rfl⟩)
theorem Zc1 {l : List Ins} {y : Ins} {k : Nat} (h : k < l.length) : (l ++ [y]).getD k default = l.getD k default := by rw [getD_append, if_pos h]
theorem Zer {l : List Ins} {y : Ins} : (l ++ [y]).getD l.length default = y := by rw [getD_append, if_neg (Nat.lt_irrefl _), Nat.sub_self]; rfl
theorem kept_old {l : List Ins} {y : Ins} {i : Nat} (hi : i < l.length) : keptP (l ++ [y]) i ↔ keptP l i ∧ ¬ Zfl y (l.getD i default).a ∧ ¬ Zfl y (l.getD i default).b ∧ ¬ Zfl y (l.getD i default).dst := by
  constructor
  · intro h
    refine ⟨fun k hk hik => ?_, ?_⟩
    · have := h k (by simp; omega) hik
      unfold keptAt at this ⊢
      rw [Zc1 hk, Zc1 hi] at this; exact this
    · have := h l.length (by simp) (by omega)
      unfold keptAt at this
      rw [Zer, Zc1 hi] at this
      exact ⟨this.1, this.2.1, this.2.2 hi⟩
  · rintro ⟨h1, h2, h3, h4⟩ k hk hik
    unfold keptAt
    by_cases e : k < l.length
    · have := h1 k e hik
      unfold keptAt at this
      rw [Zc1 e, Zc1 hi]; exact this
    · have : k = l.length := by simp at hk; omega
      subst this
      rw [Zer, Zc1 hi]; exact ⟨h2, h3, fun _ => h4⟩
theorem kept_new {l : List Ins} {y : Ins} : keptP (l ++ [y]) l.length ↔ ¬ Zfl y y.a ∧ ¬ Zfl y y.b := by
  constructor
  · intro h
    have := h l.length (by simp) (Nat.le_refl _)
    unfold keptAt at this
    rw [Zer] at this; exact ⟨this.1, this.2.1⟩
  · rintro ⟨h1, h2⟩ k hk hik
    have : k = l.length := by simp at hk; omega
    subst this
    unfold keptAt
    rw [Zer]; exact ⟨h1, h2, fun h => absurd h (Nat.lt_irrefl _)⟩
structure PInv (l : List Ins) (m : Mp) : Prop where
  nd : (m.map (·.1)).Nodup
  fwd : ∀ key v, Zb9 m key = some v → ∃ k, k < l.length ∧ keptP l k ∧ twoO (l.getD k default).op = true ∧ (ofD (l.getD k default)).l = key ∧ (l.getD k default).dst = v
  bwd : ∀ k, k < l.length → keptP l k → twoO (l.getD k default).op = true → Zb9 m (ofD (l.getD k default)).l = some (l.getD k default).dst
theorem PInv.step {l : List Ins} {m : Mp} (h : PInv l m) (x : Ins) : PInv (l ++ [sameY m x]) (sameM m x) := by
  generalize hy : sameY m x = y
  have hset : ∀ p, Zfl y p ↔ ¬ (y.op = 10 ∨ y.op = 12) ∧ y.dst = p := fun p => by unfold Zfl; omega
  have htwo : twoO y.op = true → y = x ∧ twoO x.op = true ∧ Zb9 m (ofD x).l = none := fun ht => by
    unfold sameY at hy
    split at hy
    · subst hy; simp [twoO] at ht
    · rename_i hh
      subst hy
      refine ⟨rfl, ht, ?_⟩
      unfold sameHit at hh
      rw [ht] at hh
      cases hm : Zb9 m (ofD x).l with
      | none => rfl
      | some v => rw [hm] at hh; simp at hh
  unfold sameM
  rw [hy]
  by_cases h10 : y.op = 10 ∨ y.op = 12
  · rw [if_pos h10]
    have hno : ∀ p, ¬ Zfl y p := fun p hp => ((hset p).1 hp).1 h10
    refine ⟨h.nd, fun key v hv => ?_, fun k hk hkp ht => ?_⟩
    · obtain ⟨k, h1, h2, h3, h4, h5⟩ := h.fwd key v hv
      exact ⟨k, by simp; omega, (kept_old h1).2 ⟨h2, hno _, hno _, hno _⟩, by rw [Zc1 h1]; exact h3, by rw [Zc1 h1]; exact h4, by rw [Zc1 h1]; exact h5⟩
    · by_cases e : k < l.length
      · rw [Zc1 e] at ht ⊢
        exact h.bwd k e ((kept_old e).1 hkp).1 ht
      · have : k = l.length := by simp at hk; omega
        subst this
        rw [Zer, twoO_iff] at ht
        omega
  · rw [if_neg h10]
    have hset2 : ∀ p, Zfl y p ↔ y.dst = p := fun p => by rw [hset]; exact ⟨fun a => a.2, fun a => ⟨h10, a⟩⟩
    have hnf : ((Zdd m y.dst).map (·.1)).Nodup := by
      unfold Zdd; exact (List.Sublist.map _ List.filter_sublist).nodup h.nd
    have old1 : ∀ key v, Zb9 (Zdd m y.dst) key = some v → ∃ k, k < (l ++ [y]).length ∧ keptP (l ++ [y]) k ∧ twoO ((l ++ [y]).getD k default).op = true ∧ (ofD ((l ++ [y]).getD k default)).l = key ∧ ((l ++ [y]).getD k default).dst = v := fun key v hv => by
      obtain ⟨h0, hh⟩ := (mlook_forget h.nd).1 hv
      obtain ⟨k, h1, h2, h3, h4, h5⟩ := h.fwd key v h0
      have h6 : ¬ ((l.getD k default).a = y.dst ∨ (l.getD k default).b = y.dst ∨ v = y.dst) := fun e => by
        have := hit_of.2 e
        rw [h4, hh] at this; cases this
      exact ⟨k, by simp; omega, (kept_old h1).2 ⟨h2, fun e => h6 (.inl ((hset2 _).1 e).symm), fun e => h6 (.inr (.inl ((hset2 _).1 e).symm)), fun e => h6 (.inr (.inr (by rw [← h5]; exact ((hset2 _).1 e).symm)))⟩, by rw [Zc1 h1]; exact h3, by rw [Zc1 h1]; exact h4, by rw [Zc1 h1]; exact h5⟩
    have old2 : ∀ k, k < l.length → keptP (l ++ [y]) k → twoO (l.getD k default).op = true → Zb9 m (ofD (l.getD k default)).l = some (l.getD k default).dst ∧ Zb9 (Zdd m y.dst) (ofD (l.getD k default)).l = some (l.getD k default).dst := fun k e hkp ht => by
      obtain ⟨h1, h2, h3, h4⟩ := (kept_old e).1 hkp
      have h5 := h.bwd k e h1 ht
      refine ⟨h5, (mlook_forget h.nd).2 ⟨h5, ?_⟩⟩
      rw [Bool.eq_false_iff]
      intro hh
      rw [hset2] at h2 h3 h4
      rcases hit_of.1 hh with e1 | e1 | e1
      · exact h2 e1.symm
      · exact h3 e1.symm
      · exact h4 e1.symm
    by_cases hput : sameOk m x = true ∧ y.dst ≠ (ofD x).a ∧ y.dst ≠ (ofD x).b
    · rw [if_pos hput]
      obtain ⟨hok, hna, hnb⟩ := hput
      unfold sameOk at hok
      rw [Bool.and_eq_true] at hok
      have hnone : Zb9 m (ofD x).l = none := by
        cases hm : Zb9 m (ofD x).l with
        | none => rfl
        | some v => rw [hm] at hok; simp at hok
      have hyx : y = x := by
        unfold sameY sameHit at hy
        rw [hok.1, hnone] at hy; simpa using hy.symm
      subst hyx
      have hab : y.dst ≠ y.a ∧ y.dst ≠ y.b := by
        unfold ofD at hna hnb
        split at hna <;> simp_all
      refine ⟨mput_keys hnf, fun key v hv => ?_, fun k hk hkp ht => ?_⟩
      · rw [mlook_mput] at hv
        split at hv
        · rename_i e
          cases hv
          exact ⟨l.length, by simp, kept_new.2 ⟨fun e => hab.1 ((hset2 _).1 e), fun e => hab.2 ((hset2 _).1 e)⟩, by rw [Zer]; exact hok.1, by rw [Zer]; exact e, by rw [Zer]⟩
        · exact old1 key v hv
      · by_cases e : k < l.length
        · rw [Zc1 e] at ht ⊢
          obtain ⟨a1, a2⟩ := old2 k e hkp ht
          rw [mlook_mput, if_neg (fun e2 => by rw [← e2, hnone] at a1; cases a1)]
          exact a2
        · have : k = l.length := by simp at hk; omega
          subst this
          rw [Zer, mlook_mput, if_pos rfl]
    · rw [if_neg hput]
      refine ⟨hnf, old1, fun k hk hkp ht => ?_⟩
      by_cases e : k < l.length
      · rw [Zc1 e] at ht ⊢
        exact (old2 k e hkp ht).2
      · exfalso
        have : k = l.length := by simp at hk; omega
        subst this
        rw [Zer] at ht
        obtain ⟨rfl, h1, h2⟩ := htwo ht
        obtain ⟨h3, h4⟩ := kept_new.1 hkp
        rw [hset2] at h3 h4
        refine hput ⟨by unfold sameOk; rw [h1, h2]; rfl, ?_, ?_⟩
        · unfold ofD; split <;> simp <;> first | exact h4 | exact h3
        · unfold ofD; split <;> simp <;> first | exact h3 | exact h4
theorem PInv.nil : PInv [] [] := ⟨List.nodup_nil, (fun _ _ h => by cases h), (fun k hk => by simp at hk)⟩
end Go.Proofs.YtoelbgjpmpoolaaGreat
namespace Go.Proofs.YtoelbgjpmpoolaaGreat
open Go Dv
set_option maxRecDepth 10000
set_option linter.unusedSimpArgs false
end Go.Proofs.YtoelbgjpmpoolaaGreat
namespace Go.Proofs.YtoelbgjpmpoolaaGreat
open Go Dv
set_option maxRecDepth 10000
set_option linter.unusedSimpArgs false
def aheadN (l : List Ins) (p : Int) : Nat → Int × Bool
  | 0 => (0, false)
  | k + 1 => if Zfl (l.getD k default) p then ((l.getD k default).k, decide ((l.getD k default).op = 1)) else aheadN l p k
def aheadL (l : List Ins) (p : Int) : Int × Bool := aheadN l p l.length
theorem aheadN_old {l : List Ins} {y : Ins} {p : Int} : ∀ {k : Nat}, k ≤ l.length → aheadN (l ++ [y]) p k = aheadN l p k
  | 0, _ => rfl
  | k + 1, h => by
      simp only [aheadN]
      rw [Zc1 (by omega), aheadN_old (by omega)]
theorem aheadL_snoc (l : List Ins) (y : Ins) (p : Int) : aheadL (l ++ [y]) p = if Zfl y p then (y.k, decide (y.op = 1)) else aheadL l p := by
  unfold aheadL
  rw [show (l ++ [y]).length = l.length + 1 from by simp]
  simp only [aheadN]
  rw [Zer, aheadN_old (Nat.le_refl _)]
structure KInv (l : List Ins) (m : List (List Int × Int)) : Prop where
  nd : (m.map (·.1)).Nodup
  eq : ∀ p v, Zb9 m [p] = some v ↔ aheadL l p = (v, true)
theorem KInv.nil : KInv [] [] := ⟨List.nodup_nil, fun p v => by simp [Zb9, aheadL, aheadN]⟩
theorem KInv.none {l : List Ins} {m : List (List Int × Int)} (h : KInv l m) (p : Int) : Zb9 m [p] = none ↔ (aheadL l p).2 = false := by
  cases hm : Zb9 m [p] with
  | none =>
    cases hq : aheadL l p with
    | mk v b =>
      cases b with
      | false => simp
      | true => have := (h.eq p v).2 hq; rw [hm] at this; cases this
  | some v => have := (h.eq p v).1 hm; rw [this]; simp
theorem mdel_keys {m : List (List Int × Int)} {k : List Int} (hn : (m.map (·.1)).Nodup) : ((mdel m k).map (·.1)).Nodup := by
  rw [Zfr k hn]
  exact (List.Sublist.map _ List.filter_sublist).nodup hn
theorem mlook_mdel {m : List (List Int × Int)} (hn : (m.map (·.1)).Nodup) {k k' : List Int} {v : Int} : Zb9 (mdel m k) k' = some v ↔ k' ≠ k ∧ Zb9 m k' = some v := by
  have hn2 := mdel_keys (k := k) hn
  constructor
  · intro h
    have := mlook_mem h
    rw [Zfr k hn, List.mem_filter] at this
    exact ⟨by simpa using this.2, mem_mlook hn this.1⟩
  · rintro ⟨h1, h2⟩
    refine mem_mlook hn2 ?_
    rw [Zfr k hn, List.mem_filter]
    exact ⟨mlook_mem h2, by simpa using h1⟩
theorem KInv.step {l : List Ins} {m : List (List Int × Int)} (h : KInv l m) (y : Ins) : KInv (l ++ [y]) (noteW m y) := by
  unfold noteW
  by_cases h1 : y.op = 10 ∨ y.op = 12
  · rw [if_pos h1]
    refine ⟨h.nd, fun p v => ?_⟩
    rw [aheadL_snoc, if_neg (fun e => by unfold Zfl at e; omega)]
    exact h.eq p v
  · rw [if_neg h1]
    have hs : ∀ p, Zfl y p ↔ y.dst = p := fun p => by unfold Zfl; omega
    by_cases h2 : y.op = 1
    · rw [if_pos h2]
      refine ⟨mput_keys h.nd, fun p v => ?_⟩
      rw [mlook_mput, aheadL_snoc]
      by_cases h3 : y.dst = p
      · rw [if_pos (by rw [h3]), if_pos ((hs p).2 h3)]; simp [h2]
      · rw [if_neg (fun e => h3 (by simpa using e)), if_neg (fun e => h3 ((hs p).1 e))]
        exact h.eq p v
    · rw [if_neg h2]
      refine ⟨mdel_keys h.nd, fun p v => ?_⟩
      rw [mlook_mdel h.nd, aheadL_snoc]
      by_cases h3 : y.dst = p
      · rw [if_pos ((hs p).2 h3)]; simp [h2, h3]
      · rw [if_neg (fun e => h3 ((hs p).1 e))]
        constructor
        · rintro ⟨_, h4⟩; exact (h.eq p v).1 h4
        · intro h4; exact ⟨fun e => h3 (by simpa using e.symm), (h.eq p v).2 h4⟩
end Go.Proofs.YtoelbgjpmpoolaaGreat
namespace Go.Proofs.YtoelbgjpmpoolaaGreat
open Go Dv
set_option maxRecDepth 10000
set_option linter.unusedSimpArgs false
end Go.Proofs.YtoelbgjpmpoolaaGreat
namespace Go.Proofs.YtoelbgjpmpoolaaGreat
open Go Dv
set_option maxRecDepth 10000
set_option linter.unusedSimpArgs false
structure Zaw where
  (f block at_ : Int)
  regs : List Int
  fly : Int
deriving Inhabited
def Zbp (x : Zaw) : List AV := [iv x.f, iv x.block, iv x.at_, u16s x.regs, .int .u16 x.fly]
def frW (f : Zaw) (n w : Int) : Zaw := { f with regs := f.regs.set n.toNat w }
theorem Zdi {f : Nat → List AV} {k : Nat} {c : List AV} : updR f k c k = c := by unfold updR; rw [show Nat.beq k k = true by simp]; rfl
theorem Zcv {f : Nat → List AV} {k i : Nat} {c : List AV} (h : k ≠ i) : updR f k c i = f i := by
  unfold updR; rw [show Nat.beq k i = false from by rw [Bool.eq_false_iff]; intro e; exact h (Nat.eq_of_beq_eq_true e)]; rfl
theorem rowSet {l : List Int} {K : Nat} {w : Int} {z : Nat} (hK : K < l.length) : updR (fun q => [.int .u16 (l.getD q 0)]) K [.int .u16 w] z = [.int .u16 ((l.set K w).getD z 0)] := by
  rw [Zdm]
  by_cases e : K = z
  · subst e; rw [if_pos ⟨rfl, hK⟩]; exact Zdi
  · rw [if_neg (fun h => e h.1)]; exact Zcv e
def thereB (f : Zaw) (n : Int) : Bool := decide (0 ≤ n ∧ n < f.regs.length)
def catchF (p : Pad) (w : Int) : Bool := decide (w ∈ p.catch_) || p.all
def reckV (f : Zaw) (x : Ins) : Int × Bool := if x.op = 1 then (x.k, true) else doW x.op (f.regs.getD x.a.toNat 0) (if 2 < x.op then f.regs.getD x.b.toNat 0 else 0)
def Zdc (f : Zaw) (x : Ins) : Zaw × Bool := if (reckV f x).2 = true then ({ frW f x.dst (reckV f x).1 with at_ := f.at_ + 1 }, true) else (f, false)
end Go.Proofs.YtoelbgjpmpoolaaGreat
namespace Go.Proofs.YtoelbgjpmpoolaaGreat
open Go Dv
set_option maxRecDepth 10000
set_option linter.unusedSimpArgs false
def regN (args : List Int) (q : Nat) : Int := if q < args.length then args.getD q 0 else 0
def frN (m : Zak) (n : Int) (args : List Int) : Zaw := ⟨n, 0, 0, (List.range (m.funcs.getD n.toNat default).regs.toNat).map (regN args), 0⟩
theorem appF {k z : Nat} {g : Nat → Int} {v : Int} (hz : z < k + 1) (hv : v = g k) : appR k (fun q => [.int .u16 (g q)]) (fun i => Zfm 1 [.int .u16 v] (0 + i)) z = [.int .u16 (g z)] := by
  unfold appR
  by_cases e : z < k
  · rw [show Nat.blt z k = true from by rw [Nat.blt_eq]; exact e]; rfl
  · have e2 : z = k := by omega
    subst e2
    rw [show Nat.blt z z = false from by rw [Bool.eq_false_iff]; intro h; rw [Nat.blt_eq] at h; omega, Nat.sub_self, hv]; rfl
def padOf (m : Zak) (f : Zaw) (pad : Int) : Zdp := (m.funcs.getD f.f.toNat default).blocks.getD pad.toNat default
def landF (m : Zak) (f : Zaw) (pad w : Int) : Zaw := frW { f with block := pad, at_ := 0, fly := w } (padOf m f pad).pad.dst w
end Go.Proofs.YtoelbgjpmpoolaaGreat
namespace Go.Proofs.YtoelbgjpmpoolaaGreat
open Go Dv
set_option maxRecDepth 10000
set_option linter.unusedSimpArgs false
structure Mach where
  stack : List Zaw
  (cells inputs events : List Int)
  (done value : Int)
deriving Inhabited
def frs (l : List Zaw) : AV := .sl 5 l.length fun i => Zbp (l.getD i default)
abbrev cw (l : List Int) (k : Nat) : AV := .int .u16 (l.getD k 0)
def Zcf (s : Mach) : List AV := [frs s.stack, cw s.cells 0, cw s.cells 1, cw s.cells 2, cw s.cells 3, cw s.cells 4, cw s.cells 5, cw s.cells 6, cw s.cells 7, cw s.cells 8, cw s.cells 9, cw s.cells 10, cw s.cells 11, cw s.cells 12, cw s.cells 13, cw s.cells 14, cw s.cells 15, u16s s.inputs, ints s.events, iv s.done, .int .u16 s.value]
def endM (s : Mach) (how w : Int) : Mach := { s with done := how, value := w }
def Zcl (m : Zak) (f : Zaw) : Func := m.funcs.getD f.f.toNat default
def Zau (m : Zak) (f : Zaw) : Zdp := (Zcl m f).blocks.getD f.block.toNat default
structure OkF (m : Zak) (f : Zaw) : Prop where
  f0 : 0 ≤ f.f
  f1 : f.f < m.funcs.length
  b0 : 0 ≤ f.block
  b1 : f.block < (Zcl m f).blocks.length
  a0 : 0 ≤ f.at_
  a1 : f.at_ ≤ (Zau m f).ins.length
  regs : (f.regs.length : Int) = (Zcl m f).regs
theorem Zbw {l : List Zaw} {k i : Nat} (d : Zaw) (h : i < k) : (l.take k).getD i d = l.getD i d := by
  rw [List.getD_eq_getElem?_getD, List.getElem?_take, if_pos h, ← List.getD_eq_getElem?_getD]
def Zbu (s : Mach) (f : Zaw) : Mach := { s with stack := s.stack.take (s.stack.length - 1) ++ [f] }
end Go.Proofs.YtoelbgjpmpoolaaGreat
namespace Go.Proofs.YtoelbgjpmpoolaaGreat
open Go Dv
set_option maxRecDepth 10000
set_option linter.unusedSimpArgs false
def endB (m : Zak) (f : Zaw) : Bool := decide (f.at_ = (Zau m f).ins.length)
def padF (m : Zak) (f : Zaw) : Pad := ((Zcl m f).blocks.getD (Zau m f).fin.pad.toNat default).pad
def Ze0 (m : Zak) (f : Zaw) (w : Int) (c : Bool) : Bool := endB m f && (decide ((Zau m f).fin.kind = 4) && (catchF (padF m f) w || (c && (padF m f).cleanup)))
def topF (s : Mach) : Zaw := s.stack.getD (s.stack.length - 1) default
def Zc7 (f : Zaw) (l : List Int) : List Int := l.map fun p => f.regs.getD p.toNat 0
def Zcq (m : Zak) (s : Mach) (n : Int) (places : List Int) : Mach := if 32 ≤ s.stack.length then endM s 5 0 else { s with stack := s.stack ++ [frN m n (Zc7 (topF s) places)] }
theorem Zck {α : Type} (d : α) {l : List α} {i : Nat} (h : i < l.length) : l.getD i d ∈ l := by rw [Zca d h]; exact List.getElem_mem h
end Go.Proofs.YtoelbgjpmpoolaaGreat
namespace Go.Proofs.YtoelbgjpmpoolaaGreat
open Go Dv
set_option maxRecDepth 10000
set_option linter.unusedSimpArgs false
abbrev zMach : List AV := [.nsl, .int .u16 0, .int .u16 0, .int .u16 0, .int .u16 0, .int .u16 0, .int .u16 0, .int .u16 0, .int .u16 0, .int .u16 0, .int .u16 0, .int .u16 0, .int .u16 0, .int .u16 0, .int .u16 0, .int .u16 0, .int .u16 0, .nsl, .nsl, iv 0, .int .u16 0]
def popM (s : Mach) : Mach := { s with stack := s.stack.take (s.stack.length - 1) }
theorem Zcz {s : Mach} : (popM s).stack.length = s.stack.length - 1 := by simp [popM]
def answF (m : Zak) (f : Zaw) (w : Int) : Zaw :=
  if endB m f = true then { frW f (Zau m f).fin.dst w with block := (Zau m f).fin.to, at_ := 0 }
  else { frW f ((Zau m f).ins.getD f.at_.toNat default).dst w with at_ := f.at_ + 1 }
def Zb4 (m : Zak) (s : Mach) (w : Int) : Mach := if s.stack.length = 1 then endM (popM s) 1 w else Zbu (popM s) (answF m (topF (popM s)) w)
end Go.Proofs.YtoelbgjpmpoolaaGreat
namespace Go.Proofs.YtoelbgjpmpoolaaGreat
open Go Dv
set_option maxRecDepth 10000
set_option linter.unusedSimpArgs false
theorem ins_eq (u x : Ins) : u = x ↔ x.op = u.op ∧ x.dst = u.dst ∧ x.a = u.a ∧ x.b = u.b ∧ x.k = u.k ∧ x.f = u.f ∧ x.args = u.args := by
  rw [eq_comm (a := u)]; cases u; cases x; simp
set_option maxHeartbeats 4000000 in
theorem c_lins (m : Zak) (f : Func) (x : Ins) : FC Tryz.prog 141 [.agg (encL m f), .agg (Zbf x)] (.bool (decide (InsP m f x))) := by
  refine Zav tok Tryz.func141 rfl (by decide +kernel) (Nat.le_of_ble_eq_true rfl) ?_
  (repeat' ((fail_if_success (show AWp _ _ _ (Code.region 3 _ _) _ _)); first | refine Zac ?_ | (refine Zab tok (by rfl) ?_; conv => whnf)))
  refine Zab tok (by rfl) ?_
  conv => whnf
  refine Zdq (fun q : Ins × Bool => mkS [(2, .bp (2, 0, 0) 0), (3, .bp (3, 0, 0) 0), (4, .bool false), (5, .bp (5, 0, 0) 0), (6, .bool q.2)] [((2, 0, 0), Zba (encL m f)), ((3, 0, 0), Zba (Zbf x)), ((5, 0, 0), .row true 7 1 (fun _ => Zbf q.1))]) (fun q => (q.2 && decide (q.1 = x)) = decide (InsP m f x)) ?_ ?_
  · (repeat' first | refine Zac ?_ | (refine Zab tok (by rfl) ?_; conv => whnf) | (refine Zap tok mix (by rfl) ?_; conv => whnf) | refine Zai ?_ | (refine Zag ?_; conv => whnf) | (refine Zaj ?_; conv => whnf) | refine Zaf rfl (fun hb => ?_) (fun hb => ?_))
    all_goals (try (exfalso; simp only [decide_eq_true_eq, decide_eq_false_iff_not] at *; omega))
    all_goals (repeat' first | (refine .inl ⟨_, _, _, uG (QC.fc (c_place m f x.dst) rfl), ?_⟩; conv => whnf) | (refine .inl ⟨_, _, _, uG (QC.fc (c_place m f x.a) rfl), ?_⟩; conv => whnf) | (refine .inl ⟨_, _, _, uG (QC.fc (c_place m f x.b) rfl), ?_⟩; conv => whnf) | (refine .inl ⟨_, _, _, uG (QC.fc (c_lcall m f x.f x.args) rfl), ?_⟩; conv => whnf))
    skip
    all_goals (have hop := hb; simp only [decide_eq_true_eq, decide_eq_false_iff_not] at hop)
    all_goals (try (first | (refine ⟨(⟨x.op, x.dst, 0, 0, x.k, 0, []⟩, inn x.dst f.regs), ?hp, Weak.list [((2, 0, 0), .old (2, 0, 0), Zba (encL m f)), ((3, 0, 0), .old (3, 0, 0), Zba (Zbf x)), ((5, 0, 0), .old (5, 0, 0), .row true 7 1 (fun _ => Zbf ⟨x.op, x.dst, 0, 0, x.k, 0, []⟩))] rfl (by rfl) (.cons (.eq rfl) (.cons (.eq rfl) (.cons (.eq rfl) (.cons (.eq rfl) (.cons (.eq rfl) .nil))))) (.old rfl (BLe.refl _) (.old rfl (BLe.refl _) (.old rfl (BLe.rowW (Nat.le_refl _) (fun z hz => ?row)) .nil)))⟩; (case row => (match z, hz with | 0, _ => (repeat' ((conv => arg 1; whnf); (conv => arg 2; whnf); first | refine Wks.cons .refl ?_ | refine Wks.cons (.nsl rfl) ?_ | exact Wks.nil)))); (case hp => (rw [Bool.eq_iff_iff]; simp [InsP, ins_eq, hop, and_assoc, and_comm, and_left_comm]; done))) | (refine ⟨(⟨x.op, x.dst, x.a, 0, 0, 0, []⟩, bif inn x.dst f.regs then inn x.a f.regs else false), ?hp, Weak.list [((2, 0, 0), .old (2, 0, 0), Zba (encL m f)), ((3, 0, 0), .old (3, 0, 0), Zba (Zbf x)), ((5, 0, 0), .old (5, 0, 0), .row true 7 1 (fun _ => Zbf ⟨x.op, x.dst, x.a, 0, 0, 0, []⟩))] rfl (by rfl) (.cons (.eq rfl) (.cons (.eq rfl) (.cons (.eq rfl) (.cons (.eq rfl) (.cons (.eq rfl) .nil))))) (.old rfl (BLe.refl _) (.old rfl (BLe.refl _) (.old rfl (BLe.rowW (Nat.le_refl _) (fun z hz => ?row)) .nil)))⟩; (case row => (match z, hz with | 0, _ => (repeat' ((conv => arg 1; whnf); (conv => arg 2; whnf); first | refine Wks.cons .refl ?_ | refine Wks.cons (.nsl rfl) ?_ | exact Wks.nil)))); (case hp => (rw [Bool.eq_iff_iff]; simp [InsP, ins_eq, hop, and_assoc, and_comm, and_left_comm]; done))) | (refine ⟨(⟨x.op, x.dst, x.a, x.b, 0, 0, []⟩, bif bif inn x.dst f.regs then inn x.a f.regs else false then inn x.b f.regs else false), ?hp, Weak.list [((2, 0, 0), .old (2, 0, 0), Zba (encL m f)), ((3, 0, 0), .old (3, 0, 0), Zba (Zbf x)), ((5, 0, 0), .old (5, 0, 0), .row true 7 1 (fun _ => Zbf ⟨x.op, x.dst, x.a, x.b, 0, 0, []⟩))] rfl (by rfl) (.cons (.eq rfl) (.cons (.eq rfl) (.cons (.eq rfl) (.cons (.eq rfl) (.cons (.eq rfl) .nil))))) (.old rfl (BLe.refl _) (.old rfl (BLe.refl _) (.old rfl (BLe.rowW (Nat.le_refl _) (fun z hz => ?row)) .nil)))⟩; (case row => (match z, hz with | 0, _ => (repeat' ((conv => arg 1; whnf); (conv => arg 2; whnf); first | refine Wks.cons .refl ?_ | refine Wks.cons (.nsl rfl) ?_ | exact Wks.nil)))); (case hp => (rw [Bool.eq_iff_iff]; simp [InsP, ins_eq, hop, and_assoc, and_comm, and_left_comm]; done))) | (refine ⟨(⟨x.op, 0, x.a, x.b, 0, 0, []⟩, bif inn x.a f.regs then inn x.b f.regs else false), ?hp, Weak.list [((2, 0, 0), .old (2, 0, 0), Zba (encL m f)), ((3, 0, 0), .old (3, 0, 0), Zba (Zbf x)), ((5, 0, 0), .old (5, 0, 0), .row true 7 1 (fun _ => Zbf ⟨x.op, 0, x.a, x.b, 0, 0, []⟩))] rfl (by rfl) (.cons (.eq rfl) (.cons (.eq rfl) (.cons (.eq rfl) (.cons (.eq rfl) (.cons (.eq rfl) .nil))))) (.old rfl (BLe.refl _) (.old rfl (BLe.refl _) (.old rfl (BLe.rowW (Nat.le_refl _) (fun z hz => ?row)) .nil)))⟩; (case row => (match z, hz with | 0, _ => (repeat' ((conv => arg 1; whnf); (conv => arg 2; whnf); first | refine Wks.cons .refl ?_ | refine Wks.cons (.nsl rfl) ?_ | exact Wks.nil)))); (case hp => (rw [Bool.eq_iff_iff]; simp [InsP, ins_eq, hop, and_assoc, and_comm, and_left_comm]; done))) | (refine ⟨(⟨x.op, x.dst, 0, 0, 0, x.f, x.args⟩, bif inn x.dst f.regs then argsB m f x.f x.args else false), ?hp, Weak.list [((2, 0, 0), .old (2, 0, 0), Zba (encL m f)), ((3, 0, 0), .old (3, 0, 0), Zba (Zbf x)), ((5, 0, 0), .old (5, 0, 0), .row true 7 1 (fun _ => Zbf ⟨x.op, x.dst, 0, 0, 0, x.f, x.args⟩))] rfl (by rfl) (.cons (.eq rfl) (.cons (.eq rfl) (.cons (.eq rfl) (.cons (.eq rfl) (.cons (.eq rfl) .nil))))) (.old rfl (BLe.refl _) (.old rfl (BLe.refl _) (.old rfl (BLe.rowW (Nat.le_refl _) (fun z hz => ?row)) .nil)))⟩; (case row => (match z, hz with | 0, _ => (repeat' ((conv => arg 1; whnf); (conv => arg 2; whnf); first | refine Wks.cons .refl ?_ | exact Wks.nil)))); (case hp => (rw [Bool.eq_iff_iff]; simp [InsP, ins_eq, hop, and_assoc, and_comm, and_left_comm]; done))) | (refine ⟨(⟨x.op, 0, x.a, 0, 0, 0, []⟩, inn x.a f.regs), ?hp, Weak.list [((2, 0, 0), .old (2, 0, 0), Zba (encL m f)), ((3, 0, 0), .old (3, 0, 0), Zba (Zbf x)), ((5, 0, 0), .old (5, 0, 0), .row true 7 1 (fun _ => Zbf ⟨x.op, 0, x.a, 0, 0, 0, []⟩))] rfl (by rfl) (.cons (.eq rfl) (.cons (.eq rfl) (.cons (.eq rfl) (.cons (.eq rfl) (.cons (.eq rfl) .nil))))) (.old rfl (BLe.refl _) (.old rfl (BLe.refl _) (.old rfl (BLe.rowW (Nat.le_refl _) (fun z hz => ?row)) .nil)))⟩; (case row => (match z, hz with | 0, _ => (repeat' ((conv => arg 1; whnf); (conv => arg 2; whnf); first | refine Wks.cons .refl ?_ | refine Wks.cons (.nsl rfl) ?_ | exact Wks.nil)))); (case hp => (rw [Bool.eq_iff_iff]; simp [InsP, ins_eq, hop, and_assoc, and_comm, and_left_comm]; done))) | (refine ⟨(⟨x.op, x.dst, 0, 0, 0, 0, []⟩, inn x.dst f.regs), ?hp, Weak.list [((2, 0, 0), .old (2, 0, 0), Zba (encL m f)), ((3, 0, 0), .old (3, 0, 0), Zba (Zbf x)), ((5, 0, 0), .old (5, 0, 0), .row true 7 1 (fun _ => Zbf ⟨x.op, x.dst, 0, 0, 0, 0, []⟩))] rfl (by rfl) (.cons (.eq rfl) (.cons (.eq rfl) (.cons (.eq rfl) (.cons (.eq rfl) (.cons (.eq rfl) .nil))))) (.old rfl (BLe.refl _) (.old rfl (BLe.refl _) (.old rfl (BLe.rowW (Nat.le_refl _) (fun z hz => ?row)) .nil)))⟩; (case row => (match z, hz with | 0, _ => (repeat' ((conv => arg 1; whnf); (conv => arg 2; whnf); first | refine Wks.cons .refl ?_ | refine Wks.cons (.nsl rfl) ?_ | exact Wks.nil)))); (case hp => (rw [Bool.eq_iff_iff]; simp [InsP, ins_eq, hop, and_assoc, and_comm, and_left_comm]; done)))))
    refine ⟨_, rfl, Rel.bool ?_⟩
    simp only [decide_eq_true_eq, decide_eq_false_iff_not] at *
    symm; rw [decide_eq_false_iff_not]
    rintro (h | h | h | h | h | h | h) <;> omega
  rintro q hq τ hτ
  refine Za0 hτ ?_
  conv => whnf
  (repeat' first | refine Zac ?_ | (refine Zab tok (by rfl) ?_; conv => whnf))
  refine .inl ⟨_, _, _, uG (QC.fc (c_sameIns q.1 x) rfl), ?_⟩
  conv => whnf
  (repeat' (refine Zaj ?_; conv => whnf))
  refine ⟨_, rfl, Rel.bool ?_⟩
  rw [← hq]
  cases q.2 <;> rfl
end Go.Proofs.YtoelbgjpmpoolaaGreat
namespace Go.Proofs.YtoelbgjpmpoolaaGreat
open Go Dv
set_option maxRecDepth 10000
set_option linter.unusedSimpArgs false
theorem end_eq (u x : End) : u = x ↔ x.kind = u.kind ∧ x.a = u.a ∧ x.dst = u.dst ∧ x.f = u.f ∧ x.args = u.args ∧ x.to = u.to ∧ x.els = u.els ∧ x.pad = u.pad := by
  rw [eq_comm (a := u)]; cases u; cases x; simp
set_option maxHeartbeats 4000000 in
theorem c_lend (m : Zak) (f : Func) (x : End) : FC Tryz.prog 139 [.agg (encL m f), .agg (Zea x)] (.bool (decide (EndP m f x))) := by
  refine Zav tok Tryz.func139 rfl (by decide +kernel) (Nat.le_of_ble_eq_true rfl) ?_
  (repeat' ((fail_if_success (show AWp _ _ _ (Code.region 3 _ _) _ _)); first | refine Zac ?_ | (refine Zab tok (by rfl) ?_; conv => whnf)))
  refine Zab tok (by rfl) ?_
  conv => whnf
  refine Zdq (fun q : End × Bool => mkS [(2, .bp (2, 0, 0) 0), (3, .bp (3, 0, 0) 0), (4, .bool false), (5, .bp (5, 0, 0) 0), (6, .bool q.2)] [((2, 0, 0), Zba (encL m f)), ((3, 0, 0), Zba (Zea x)), ((5, 0, 0), .row true 8 1 (fun _ => Zea q.1))]) (fun q => (q.2 && decide (q.1 = x)) = decide (EndP m f x)) ?_ ?_
  · (repeat' first | refine Zac ?_ | (refine Zab tok (by rfl) ?_; conv => whnf) | (refine Zap tok mix (by rfl) ?_; conv => whnf) | refine Zai ?_ | (refine Zag ?_; conv => whnf) | (refine Zaj ?_; conv => whnf) | refine Zaf rfl (fun hb => ?_) (fun hb => ?_))
    all_goals (try (exfalso; simp only [decide_eq_true_eq, decide_eq_false_iff_not] at *; omega))
    all_goals (repeat' first | (refine .inl ⟨_, _, _, uG (QC.fc (c_place m f x.dst) rfl), ?_⟩; conv => whnf) | (refine .inl ⟨_, _, _, uG (QC.fc (c_place m f x.a) rfl), ?_⟩; conv => whnf) | (refine .inl ⟨_, _, _, uG (QC.fc (c_lgoal m f x.to) rfl), ?_⟩; conv => whnf) | (refine .inl ⟨_, _, _, uG (QC.fc (c_lgoal m f x.els) rfl), ?_⟩; conv => whnf) | (refine .inl ⟨_, _, _, uG (QC.fc (c_landing m f x.pad) rfl), ?_⟩; conv => whnf) | (refine .inl ⟨_, _, _, uG (QC.fc (c_lcall m f x.f x.args) rfl), ?_⟩; conv => whnf))
    skip
    all_goals (have hop := hb; simp only [decide_eq_true_eq, decide_eq_false_iff_not] at hop)
    all_goals (try (first | (refine ⟨(⟨x.kind, x.a, 0, 0, [], 0, 0, 0⟩, inn x.a f.regs), ?hp, Weak.list [((2, 0, 0), .old (2, 0, 0), Zba (encL m f)), ((3, 0, 0), .old (3, 0, 0), Zba (Zea x)), ((5, 0, 0), .old (5, 0, 0), .row true 8 1 (fun _ => Zea ⟨x.kind, x.a, 0, 0, [], 0, 0, 0⟩))] rfl (by rfl) (.cons (.eq rfl) (.cons (.eq rfl) (.cons (.eq rfl) (.cons (.eq rfl) (.cons (.eq rfl) .nil))))) (.old rfl (BLe.refl _) (.old rfl (BLe.refl _) (.old rfl (BLe.rowW (Nat.le_refl _) (fun z hz => ?row)) .nil)))⟩; (case row => (match z, hz with | 0, _ => (repeat' ((conv => arg 1; whnf); (conv => arg 2; whnf); first | refine Wks.cons .refl ?_ | refine Wks.cons (.nsl rfl) ?_ | exact Wks.nil)))); (case hp => (rw [Bool.eq_iff_iff]; simp [EndP, end_eq, hop, landB, and_assoc, and_comm, and_left_comm]; done))) | (refine ⟨(⟨x.kind, 0, 0, 0, [], x.to, 0, 0⟩, goalB f x.to), ?hp, Weak.list [((2, 0, 0), .old (2, 0, 0), Zba (encL m f)), ((3, 0, 0), .old (3, 0, 0), Zba (Zea x)), ((5, 0, 0), .old (5, 0, 0), .row true 8 1 (fun _ => Zea ⟨x.kind, 0, 0, 0, [], x.to, 0, 0⟩))] rfl (by rfl) (.cons (.eq rfl) (.cons (.eq rfl) (.cons (.eq rfl) (.cons (.eq rfl) (.cons (.eq rfl) .nil))))) (.old rfl (BLe.refl _) (.old rfl (BLe.refl _) (.old rfl (BLe.rowW (Nat.le_refl _) (fun z hz => ?row)) .nil)))⟩; (case row => (match z, hz with | 0, _ => (repeat' ((conv => arg 1; whnf); (conv => arg 2; whnf); first | refine Wks.cons .refl ?_ | refine Wks.cons (.nsl rfl) ?_ | exact Wks.nil)))); (case hp => (rw [Bool.eq_iff_iff]; simp [EndP, end_eq, hop, landB, and_assoc, and_comm, and_left_comm]; done))) | (refine ⟨(⟨x.kind, x.a, 0, 0, [], x.to, x.els, 0⟩, bif bif inn x.a f.regs then goalB f x.to else false then goalB f x.els else false), ?hp, Weak.list [((2, 0, 0), .old (2, 0, 0), Zba (encL m f)), ((3, 0, 0), .old (3, 0, 0), Zba (Zea x)), ((5, 0, 0), .old (5, 0, 0), .row true 8 1 (fun _ => Zea ⟨x.kind, x.a, 0, 0, [], x.to, x.els, 0⟩))] rfl (by rfl) (.cons (.eq rfl) (.cons (.eq rfl) (.cons (.eq rfl) (.cons (.eq rfl) (.cons (.eq rfl) .nil))))) (.old rfl (BLe.refl _) (.old rfl (BLe.refl _) (.old rfl (BLe.rowW (Nat.le_refl _) (fun z hz => ?row)) .nil)))⟩; (case row => (match z, hz with | 0, _ => (repeat' ((conv => arg 1; whnf); (conv => arg 2; whnf); first | refine Wks.cons .refl ?_ | refine Wks.cons (.nsl rfl) ?_ | exact Wks.nil)))); (case hp => (rw [Bool.eq_iff_iff]; simp [EndP, end_eq, hop, landB, and_assoc, and_comm, and_left_comm]; done))) | (refine ⟨(⟨x.kind, 0, x.dst, x.f, x.args, x.to, 0, x.pad⟩, bif bif bif inn x.dst f.regs then argsB m f x.f x.args else false then goalB f x.to else false then landB f x.pad else false), ?hp, Weak.list [((2, 0, 0), .old (2, 0, 0), Zba (encL m f)), ((3, 0, 0), .old (3, 0, 0), Zba (Zea x)), ((5, 0, 0), .old (5, 0, 0), .row true 8 1 (fun _ => Zea ⟨x.kind, 0, x.dst, x.f, x.args, x.to, 0, x.pad⟩))] rfl (by rfl) (.cons (.eq rfl) (.cons (.eq rfl) (.cons (.eq rfl) (.cons (.eq rfl) (.cons (.eq rfl) .nil))))) (.old rfl (BLe.refl _) (.old rfl (BLe.refl _) (.old rfl (BLe.rowW (Nat.le_refl _) (fun z hz => ?row)) .nil)))⟩; (case row => (match z, hz with | 0, _ => (repeat' ((conv => arg 1; whnf); (conv => arg 2; whnf); first | refine Wks.cons .refl ?_ | exact Wks.nil)))); (case hp => (rw [Bool.eq_iff_iff]; simp [EndP, end_eq, hop, landB, and_assoc, and_comm, and_left_comm]; done))) | (refine ⟨(⟨x.kind, 0, 0, 0, [], 0, 0, 0⟩, true), ?hp, Weak.list [((2, 0, 0), .old (2, 0, 0), Zba (encL m f)), ((3, 0, 0), .old (3, 0, 0), Zba (Zea x)), ((5, 0, 0), .old (5, 0, 0), .row true 8 1 (fun _ => Zea ⟨x.kind, 0, 0, 0, [], 0, 0, 0⟩))] rfl (by rfl) (.cons (.eq rfl) (.cons (.eq rfl) (.cons (.eq rfl) (.cons (.eq rfl) (.cons (.eq rfl) .nil))))) (.old rfl (BLe.refl _) (.old rfl (BLe.refl _) (.old rfl (BLe.rowW (Nat.le_refl _) (fun z hz => ?row)) .nil)))⟩; (case row => (match z, hz with | 0, _ => (repeat' ((conv => arg 1; whnf); (conv => arg 2; whnf); first | refine Wks.cons .refl ?_ | refine Wks.cons (.nsl rfl) ?_ | exact Wks.nil)))); (case hp => (rw [Bool.eq_iff_iff]; simp [EndP, end_eq, hop, landB, and_assoc, and_comm, and_left_comm]; done)))))
    refine ⟨_, rfl, Rel.bool ?_⟩
    simp only [decide_eq_true_eq, decide_eq_false_iff_not] at *
    symm; rw [decide_eq_false_iff_not]
    rintro (h | h | h | h | h) <;> omega
  rintro q hq τ hτ
  refine Za0 hτ ?_
  conv => whnf
  (repeat' first | refine Zac ?_ | (refine Zab tok (by rfl) ?_; conv => whnf))
  refine .inl ⟨_, _, _, uG (QC.fc (c_sameEnd q.1 x) rfl), ?_⟩
  conv => whnf
  (repeat' (refine Zaj ?_; conv => whnf))
  refine ⟨_, rfl, Rel.bool ?_⟩
  rw [← hq]
  cases q.2 <;> rfl
end Go.Proofs.YtoelbgjpmpoolaaGreat
namespace Go.Proofs.YtoelbgjpmpoolaaGreat
open Go Dv
set_option maxRecDepth 10000
set_option linter.unusedSimpArgs false
theorem c_IdxInsM {g : FuncId} {cap : List AV} {p : Ins → Bool} (hi : Zb5 cap = true) (l : List Ins) (hg : ∀ i, i < l.length → FC Tryz.prog g (.agg (Zbf (l.getD i default)) :: cap) (.bool (p (l.getD i default)))) : FC Tryz.prog 147 [inss l, .fn g cap] (iv (idxG p l)) := by
  refine Zav tok Tryz.func147 rfl (by decide +kernel) (Nat.le_of_ble_eq_true rfl) ?_
  refine Zas 0 (fun hl => ?_)
  have hl0 : l.length ≤ maxL := hl.1
  (repeat' first | refine Zac ?_ | (refine Zab tok (by rfl) ?_; conv => whnf) | refine Zai ?_)
  refine Zay (fun i : Nat => mkS [(0, inss l), (1, .fn g cap), (7, iv l.length), (8, iv i)] [])
    (fun i => i ≤ l.length ∧ ∀ j, j < i → p (l.getD j default) = false) (fun i => l.length - i) 0 ⟨Nat.zero_le _, by simp⟩ ?_ ?_
  · refine Weak.list [] rfl (by rfl) ?_ .nil
    ((repeat' first | exact TLes.nil | refine TLes.cons (TLe.eq rfl) ?_ | refine TLes.cons (TLe.fn (by assumption)) ?_); skip)
  rintro i ⟨hi2, hc⟩
  ((repeat' first | refine Zac ?_ | (refine Zab tok (by rfl) ?_; conv => whnf) | refine Zai ?_ | (refine Zag ?_; conv => whnf) | (refine Za1 ?_; conv => whnf) | (refine Zaj ?_; conv => whnf) | (refine (Zcb _ _).mpr ?_; conv => whnf) | refine Zaf rfl (fun hb => ?_) (fun hb => ?_) | (refine @And.intro (Zaa _ _ _ _) _ ?_ ?_; rotate_left; (conv => whnf); rotate_right)); all_goals (try ((guard_target = Zaa _ _ _ _); refine Zae ?_; (all_goals (try simp only [Zaa, kzz, kz11, kz12, maxL, Zad] at *)); all_goals omega)))
  · have hlt : i < l.length := by simp only [Zaa, kzz, kz11, kz12, maxL, Zad] at *; omega
    refine .inl ⟨_, _, _, uG (QC.fc (hg (i : Int).toNat hlt) (immDs_app (xs := [.agg (Zbf (l.getD (i : Int).toNat default))]) rfl hi)), ?_⟩
    conv => whnf
    (repeat' first | refine Zac ?_ | (refine Zab tok (by rfl) ?_; conv => whnf) | (refine Zag ?_; conv => whnf) | (refine Zaj ?_; conv => whnf) | refine Zaf rfl (fun hb => ?_) (fun hb => ?_))
    · refine ⟨_, rfl, Rel.int ?_⟩
      exact (idxG_at default hlt hc (by simpa using hb)).symm
    · refine ⟨i + 1, ⟨hlt, fun j hj => ?_⟩, by omega, ?_⟩
      · by_cases e : j = i
        · subst e; simpa using hb
        · exact hc j (by omega)
      refine Weak.list [] rfl (by rfl) ?_ .nil
      ((repeat' first | exact TLes.nil | refine TLes.cons (TLe.eq rfl) ?_ | refine TLes.cons (TLe.int ?_) ?_ | refine TLes.cons (TLe.fn (by assumption)) ?_); (all_goals first | ((try (simp only [Zaa, kzz, kz11, kz12, maxL, Zad] at *)); exact Zal (by omega) (by omega)) | skip))
  · refine ⟨_, rfl, Rel.int ?_⟩
    exact (idxG_none default (fun j hj => hc j (by simp only [Zaa, kzz, kz11, kz12, maxL, Zad] at *; omega))).symm
theorem c_HasInsM {g : FuncId} {cap : List AV} {p : Ins → Bool} (hi : Zb5 cap = true) (l : List Ins) (hg : ∀ i, i < l.length → FC Tryz.prog g (.agg (Zbf (l.getD i default)) :: cap) (.bool (p (l.getD i default)))) : FC Tryz.prog 100 [inss l, .fn g cap] (.bool (l.any p)) := by
  refine Zav tok Tryz.func100 rfl (by decide +kernel) (Nat.le_of_ble_eq_true rfl) ?_
  (repeat' first | refine Zac ?_ | (refine Zab tok (by rfl) ?_; conv => whnf) | (refine (Zcb _ _).mpr ?_; conv => whnf))
  refine .inl ⟨_, _, _, uG (QC.fc (c_IdxInsM hi l hg) (show Zb5 [inss l, AV.fn g cap] = true from by simp [Zb5, immD, inss, hi])), ?_⟩
  conv => whnf
  (repeat' (refine Zaj ?_; conv => whnf))
  refine ⟨_, rfl, Rel.bool ?_⟩
  rw [← idxG_any]
theorem c_IdxFuncM {g : FuncId} {cap : List AV} {p : Func → Bool} (hi : Zb5 cap = true) (l : List Func) (hg : ∀ i, i < l.length → FC Tryz.prog g (.agg (Zcg (l.getD i default)) :: cap) (.bool (p (l.getD i default)))) : FC Tryz.prog 90 [funcss l, .fn g cap] (iv (idxG p l)) := by
  refine Zav tok Tryz.func90 rfl (by decide +kernel) (Nat.le_of_ble_eq_true rfl) ?_
  refine Zas 0 (fun hl => ?_)
  have hl0 : l.length ≤ maxL := hl.1
  (repeat' first | refine Zac ?_ | (refine Zab tok (by rfl) ?_; conv => whnf) | refine Zai ?_)
  refine Zay (fun i : Nat => mkS [(0, funcss l), (1, .fn g cap), (7, iv l.length), (8, iv i)] [])
    (fun i => i ≤ l.length ∧ ∀ j, j < i → p (l.getD j default) = false) (fun i => l.length - i) 0 ⟨Nat.zero_le _, by simp⟩ ?_ ?_
  · refine Weak.list [] rfl (by rfl) ?_ .nil
    ((repeat' first | exact TLes.nil | refine TLes.cons (TLe.eq rfl) ?_ | refine TLes.cons (TLe.fn (by assumption)) ?_); skip)
  rintro i ⟨hi2, hc⟩
  ((repeat' first | refine Zac ?_ | (refine Zab tok (by rfl) ?_; conv => whnf) | refine Zai ?_ | (refine Zag ?_; conv => whnf) | (refine Za1 ?_; conv => whnf) | (refine Zaj ?_; conv => whnf) | (refine (Zcb _ _).mpr ?_; conv => whnf) | refine Zaf rfl (fun hb => ?_) (fun hb => ?_) | (refine @And.intro (Zaa _ _ _ _) _ ?_ ?_; rotate_left; (conv => whnf); rotate_right)); all_goals (try ((guard_target = Zaa _ _ _ _); refine Zae ?_; (all_goals (try simp only [Zaa, kzz, kz11, kz12, maxL, Zad] at *)); all_goals omega)))
  · have hlt : i < l.length := by simp only [Zaa, kzz, kz11, kz12, maxL, Zad] at *; omega
    refine .inl ⟨_, _, _, uG (QC.fc (hg (i : Int).toNat hlt) (immDs_app (xs := [.agg (Zcg (l.getD (i : Int).toNat default))]) rfl hi)), ?_⟩
    conv => whnf
    (repeat' first | refine Zac ?_ | (refine Zab tok (by rfl) ?_; conv => whnf) | (refine Zag ?_; conv => whnf) | (refine Zaj ?_; conv => whnf) | refine Zaf rfl (fun hb => ?_) (fun hb => ?_))
    · refine ⟨_, rfl, Rel.int ?_⟩
      exact (idxG_at default hlt hc (by simpa using hb)).symm
    · refine ⟨i + 1, ⟨hlt, fun j hj => ?_⟩, by omega, ?_⟩
      · by_cases e : j = i
        · subst e; simpa using hb
        · exact hc j (by omega)
      refine Weak.list [] rfl (by rfl) ?_ .nil
      ((repeat' first | exact TLes.nil | refine TLes.cons (TLe.eq rfl) ?_ | refine TLes.cons (TLe.int ?_) ?_ | refine TLes.cons (TLe.fn (by assumption)) ?_); (all_goals first | ((try (simp only [Zaa, kzz, kz11, kz12, maxL, Zad] at *)); exact Zal (by omega) (by omega)) | skip))
  · refine ⟨_, rfl, Rel.int ?_⟩
    exact (idxG_none default (fun j hj => hc j (by simp only [Zaa, kzz, kz11, kz12, maxL, Zad] at *; omega))).symm
theorem c_HasFuncM {g : FuncId} {cap : List AV} {p : Func → Bool} (hi : Zb5 cap = true) (l : List Func) (hg : ∀ i, i < l.length → FC Tryz.prog g (.agg (Zcg (l.getD i default)) :: cap) (.bool (p (l.getD i default)))) : FC Tryz.prog 51 [funcss l, .fn g cap] (.bool (l.any p)) := by
  refine Zav tok Tryz.func51 rfl (by decide +kernel) (Nat.le_of_ble_eq_true rfl) ?_
  (repeat' first | refine Zac ?_ | (refine Zab tok (by rfl) ?_; conv => whnf) | (refine (Zcb _ _).mpr ?_; conv => whnf))
  refine .inl ⟨_, _, _, uG (QC.fc (c_IdxFuncM hi l hg) (show Zb5 [funcss l, AV.fn g cap] = true from by simp [Zb5, immD, funcss, hi])), ?_⟩
  conv => whnf
  (repeat' (refine Zaj ?_; conv => whnf))
  refine ⟨_, rfl, Rel.bool ?_⟩
  rw [← idxG_any]
theorem c_HasIns {g : FuncId} {cap : List AV} {p : Ins → Bool} (hi : Zb5 cap = true) (hg : ∀ x, FC Tryz.prog g (.agg (Zbf x) :: cap) (.bool (p x))) (l : List Ins) : FC Tryz.prog 100 [inss l, .fn g cap] (.bool (l.any p)) := c_HasInsM hi l (fun i _ => hg _)
theorem c_HasFunc {g : FuncId} {cap : List AV} {p : Func → Bool} (hi : Zb5 cap = true) (hg : ∀ x, FC Tryz.prog g (.agg (Zcg x) :: cap) (.bool (p x))) (l : List Func) : FC Tryz.prog 51 [funcss l, .fn g cap] (.bool (l.any p)) := c_HasFuncM hi l (fun i _ => hg _)
end Go.Proofs.YtoelbgjpmpoolaaGreat
namespace Go.Proofs.YtoelbgjpmpoolaaGreat
open Go Dv
set_option maxRecDepth 10000
set_option linter.unusedSimpArgs false
theorem c_lblk1 (m : Zak) (f : Func) (x : Ins) : FC Tryz.prog 140 [.agg (Zbf x), .ip (encL m f)] (.bool (!decide (InsP m f x))) := by
  refine Zav tok Tryz.func140 rfl (by decide +kernel) (Nat.le_of_ble_eq_true rfl) ?_
  (repeat' first | refine Zac ?_ | (refine Zab tok (by rfl) ?_; conv => whnf))
  refine .inl ⟨_, _, _, uG (QC.fc (c_lins m f x) rfl), ?_⟩
  conv => whnf
  (repeat' (refine Zaj ?_; conv => whnf))
  exact ⟨_, rfl, Rel.imm rfl⟩
def LPad : Prop := ∀ (m : Zak) (f : Func) (b : Zdp), FC Tryz.prog 138 [.agg (encL m f), .agg (Zbl b)] (.bool (decide (PadP f b)))
theorem c_lblock (hpad : LPad) (m : Zak) (f : Func) (n : Nat) (hn : n < f.blocks.length) : FC Tryz.prog 91 [.agg (encL m f), iv n] (.bool (blkB m f (f.blocks.getD n default))) := by
  refine Zav tok Tryz.func91 rfl (by decide +kernel) (Nat.le_of_ble_eq_true rfl) ?_
  ((repeat' ((fail_if_success (show AWp _ _ _ (Code.region 2 _ _) _ _)); first | refine Zac ?_ | (refine Zab tok (by rfl) ?_; conv => whnf) | (refine @And.intro (Zaa _ _ _ _) _ ?_ ?_; rotate_left; (conv => whnf); rotate_right))); all_goals (try ((guard_target = Zaa _ _ _ _); refine Zae ?_; all_goals omega)))
  have hget : f.blocks.getD (n : Int).toNat default = f.blocks.getD n default := by simp
  generalize f.blocks.getD n default = b at hget ⊢
  refine Za0 (Weak.list (tl := [(2, .bp (2, 0, 0) 0), (4, .bool false), (5, .bp (5, 0, 0) 0)]) [((2, 0, 0), .old (2, 0, 0), Zba (encL m f)), ((5, 0, 0), .old (5, 0, 0), .row true 14 1 (fun _ => Zbl b))] rfl (by rfl) ?_ (.old rfl (BLe.refl _) (.old rfl (BLe.rowW (Nat.le_refl _) (fun z hz => ?_)) .nil))) ?_
  · ((repeat' first | exact TLes.nil | refine TLes.cons (TLe.eq rfl) ?_); skip)
  · match z, hz with
    | 0, _ => rw [← hget]; exact Wks.of rfl
  (repeat' (refine Zab tok (by rfl) ?_; conv => whnf))
  refine .inl ⟨_, _, _, uG (QC.fc (hpad m f b) rfl), ?_⟩
  conv => whnf
  skip
  refine .inl ⟨_, _, _, uG (QC.fc (c_lend m f b.fin) rfl), ?_⟩
  conv => whnf
  skip
  have hh := c_HasIns (g := 140) (cap := [.ip (encL m f)]) (p := fun x => !decide (InsP m f x)) rfl (fun x => c_lblk1 m f x) b.ins
  refine .inl ⟨_, _, _, uG (QC.sc (rd := [(2, 0, 0)]) hh (.cons (.imm rfl) (.cons (.fn (.cons (.ip rfl (List.mem_singleton.2 rfl) (by decide) (Ress.imms rfl)) .nil)) .nil)) rfl), ?_⟩
  conv => whnf
  (repeat' (refine Zaj ?_; conv => whnf))
  refine ⟨_, rfl, Rel.bool ?_⟩
  unfold blkB
  rw [List.not_any_eq_all_not, Bool.eq_iff_iff]
  have hc : decide ((b.ins.length : Int) ≤ 64) = decide (b.ins.length ≤ 64) := by rw [decide_eq_decide]; omega
  rw [hc]
  simp [and_assoc]
end Go.Proofs.YtoelbgjpmpoolaaGreat
namespace Go.Proofs.YtoelbgjpmpoolaaGreat
open Go Dv
set_option maxRecDepth 10000
set_option linter.unusedSimpArgs false
theorem c_lFunc (hpad : LPad) (m : Zak) (f : Func) : FC Tryz.prog 53 [.agg (Zbj m), .agg (Zcg f)] (.bool (funcB m f)) := by
  refine Zav tok Tryz.func53 rfl (by decide +kernel) (Nat.le_of_ble_eq_true rfl) ?_
  refine Zas 1 (fun hl => ?_)
  have hl0 : f.blocks.length ≤ maxL := hl.2.2.1.1
  ((repeat' first | refine Zac ?_ | (refine Zab tok (by rfl) ?_; conv => whnf) | refine Zai ?_ | (refine Zag ?_; conv => whnf) | (refine Zaj ?_; conv => whnf) | refine Zaf rfl (fun hb => ?_) (fun hb => ?_) | (refine @And.intro (Zaa _ _ _ _) _ ?_ ?_; rotate_left; (conv => whnf); rotate_right)); all_goals (try ((guard_target = Zaa _ _ _ _); ((refine Zbe ?_; intro hgd; (conv at hgd => whnf))); (all_goals (try simp only [Zaa, kzz, kz11, kz12, maxL, Zad] at *)); all_goals omega)))
  · refine ⟨_, rfl, Rel.bool ?_⟩
    rw [show Int.toNat 0 = 0 from rfl] at hb
    unfold funcB
    have hF : decide (FunP f) = false := by
      rw [decide_eq_false_iff_not]; intro h; unfold FunP at h
      rw [h.2.2.2.2.2.2] at hb; simp [-List.length_eq_zero_iff] at hb; omega
    rw [hF]; rfl
  have hF : FunP f := by
    rw [show Int.toNat 0 = 0 from rfl] at hb
    unfold FunP
    cases hland : (f.blocks.getD 0 default).landing with
    | true => rw [hland] at hb; simp at hb
    | false => rw [hland] at hb; simp [-List.length_eq_zero_iff] at hb; refine ⟨?_, ?_, ?_, ?_, ?_, ?_, rfl⟩ <;> omega
  clear hb
  refine Zay (fun i : Nat => mkS [(4, .bool false), (5, .bp (5, 0, 0) 0), (51, iv f.blocks.length), (52, iv i)] [((5, 0, 0), .row true 4 1 (fun _ => encL m f))])
    (fun i => i ≤ f.blocks.length ∧ ∀ j, j < i → blkB m f (f.blocks.getD j default) = true) (fun i => f.blocks.length - i) 0 ⟨Nat.zero_le _, by simp⟩ ?_ ?_
  · refine Weak.list [((5, 0, 0), .old (5, 0, 0), .row true 4 1 (fun _ => encL m f))] rfl (by rfl) ?_ (.old rfl (BLe.rowW (Nat.le_refl _) (fun z hz => ?_)) .nil)
    · ((repeat' first | exact TLes.nil | refine TLes.cons (TLe.eq rfl) ?_); skip)
    · match z, hz with
      | 0, _ => exact Wks.of rfl
  rintro i ⟨hi, hc⟩
  (repeat' first | refine Zac ?_ | (refine Zab tok (by rfl) ?_; conv => whnf) | refine Zai ?_ | (refine Zag ?_; conv => whnf) | (refine Za1 ?_; conv => whnf) | (refine Zaj ?_; conv => whnf) | refine Zaf rfl (fun hb => ?_) (fun hb => ?_))
  · have hlt : i < f.blocks.length := by simp only [Zaa, kzz, kz11, kz12, maxL, Zad] at *; omega
    refine .inl ⟨_, _, _, uG (QC.fc (c_lblock hpad m f i hlt) rfl), ?_⟩
    conv => whnf
    (repeat' first | refine Zac ?_ | (refine Zab tok (by rfl) ?_; conv => whnf) | (refine Zag ?_; conv => whnf) | (refine Zaj ?_; conv => whnf) | refine Zaf rfl (fun hb => ?_) (fun hb => ?_))
    · refine ⟨_, rfl, Rel.bool ?_⟩
      unfold funcB
      rw [all_no default hlt (p := blkB m f) (by simpa using hb)]
      simp
    · refine ⟨i + 1, ⟨hlt, fun j hj => ?_⟩, by omega, ?_⟩
      · by_cases e : j = i
        · subst e; simpa using hb
        · exact hc j (by omega)
      refine Weak.list [((5, 0, 0), .old (5, 0, 0), .row true 4 1 (fun _ => encL m f))] rfl (by rfl) ?_ (.old rfl (BLe.refl _) .nil)
      ((repeat' first | exact TLes.nil | refine TLes.cons (TLe.eq rfl) ?_ | refine TLes.cons (TLe.int ?_) ?_); (all_goals first | ((try (simp only [Zaa, kzz, kz11, kz12, maxL, Zad] at *)); exact Zal (by omega) (by omega)) | skip))
  · refine ⟨_, rfl, Rel.bool ?_⟩
    unfold funcB
    rw [decide_eq_true hF, all_yes default (fun j hj => hc j (by simp only [Zaa, kzz, kz11, kz12, maxL, Zad] at *; omega))]; rfl
theorem c_lRight1 (hpad : LPad) (m : Zak) (f : Func) : FC Tryz.prog 52 [.agg (Zcg f), .ip (Zbj m)] (.bool (!funcB m f)) := by
  refine Zav tok Tryz.func52 rfl (by decide +kernel) (Nat.le_of_ble_eq_true rfl) ?_
  (repeat' first | refine Zac ?_ | (refine Zab tok (by rfl) ?_; conv => whnf))
  refine .inl ⟨_, _, _, uG (QC.fc (c_lFunc hpad m f) rfl), ?_⟩
  conv => whnf
  (repeat' (refine Zaj ?_; conv => whnf))
  exact ⟨_, rfl, Rel.imm rfl⟩
theorem c_lRight (hpad : LPad) (m : Zak) : FC Tryz.prog 15 [.agg (Zbj m)] (.bool (Zbg m)) := by
  refine Zav tok Tryz.func15 rfl (by decide +kernel) (Nat.le_of_ble_eq_true rfl) ?_
  refine Zas 0 (fun hl => ?_)
  have hl0 : m.funcs.length ≤ maxL := hl.1.1
  ((repeat' first | refine Zac ?_ | (refine Zab tok (by rfl) ?_; conv => whnf) | (refine Zag ?_; conv => whnf) | (refine Zaj ?_; conv => whnf) | refine Zaf rfl (fun hb => ?_) (fun hb => ?_) | (refine @And.intro (Zaa _ _ _ _) _ ?_ ?_; rotate_left; (conv => whnf); rotate_right)); all_goals (try ((guard_target = Zaa _ _ _ _); ((refine Zbe ?_; intro hgd; (conv at hgd => whnf))); (all_goals (try simp only [Zaa, kzz, kz11, kz12, maxL, Zad] at *)); all_goals omega)))
  · refine ⟨_, rfl, Rel.bool ?_⟩
    rw [show Int.toNat 0 = 0 from rfl] at hb
    unfold Zbg
    rw [decide_eq_false]
    · rfl
    · rintro ⟨h1, h2, h3⟩
      rw [h3] at hb; simp [-List.length_eq_zero_iff] at hb; omega
  have hF : 1 ≤ m.funcs.length ∧ m.funcs.length ≤ 16 ∧ (m.funcs.getD 0 default).params = 0 := by
    rw [show Int.toNat 0 = 0 from rfl] at hb
    simp only [Bool.cond_true_left, Bool.or_eq_false_iff] at hb
    refine ⟨?_, ?_, by simpa using hb.2⟩ <;> simp only [Zaa, kzz, kz11, kz12, maxL, Zad] at * <;> omega
  clear hb
  refine .inl ⟨_, _, _, uG (QC.sc (rd := [(1, 0, 0)]) (c_HasFunc (g := 52) (cap := [.ip (Zbj m)]) (p := fun f => !funcB m f) rfl (fun f => c_lRight1 hpad m f) m.funcs) (.cons (.imm rfl) (.cons (.fn (.cons (.ip rfl (List.mem_singleton.2 rfl) (by decide) (Ress.imms rfl)) .nil)) .nil)) rfl), ?_⟩
  conv => whnf
  (repeat' (refine Zaj ?_; conv => whnf))
  refine ⟨_, rfl, Rel.bool ?_⟩
  unfold Zbg
  rw [List.not_any_eq_all_not, decide_eq_true hF]
  simp
end Go.Proofs.YtoelbgjpmpoolaaGreat
namespace Go.Proofs.YtoelbgjpmpoolaaGreat
open Go Dv Go.RowKit Go.Maps Go.Sort Go.Shelf
set_option linter.unusedSimpArgs false
@[go_sem, reducible] def encU (k : Int) : Value := .int .u16 k
def SeqU (F : Fence) (n : Nat) (g : Nat) (lb : Array Value) (S : List Int → Prop) (N : Nat) (w : World) : Prop :=
  ∀ (l : Nat) (J : List Int → World → Prop) (W : World), RowKit.Below w.heap.size w W → (∀ pre W', J pre W' → RowKit.Below w.heap.size w W') →
    (∀ pre x W', J pre W' → pre.length < N → YieldAt F (n - 1) Tryz.prog l #[encU x] W' fun e W2 => e = .returned (.bool true) ∧ J (pre ++ [x]) W2 ∧ KeepsWalks W' W2) → J [] W →
    CallsIn F n Tryz.prog g (#[.func (.yield l) #[] #[]] ++ lb) W fun e W' => (∃ v, e = .returned v) ∧ ∃ ss, S ss ∧ J ss W'
def Sq.apAssign : Code := (Code.region 2 #[{ dst := some 5, op := Op.assign (Operand.tmp 7), type := 50, pos := "iter.go:51", after := #[], guard := none }] false)
def Sq.apBody : Code := (Code.block 1 (Code.region 3 #[{ dst := some 8, op := Op.load 25 (Operand.tmp 2), type := 25, pos := "iter.go:52", after := #[], guard := none }, { dst := some 9, op := Op.move (Operand.tmp 5), type := 50, pos := "iter.go:52", after := #[], guard := none }, { dst := some 10, op := Op.buildSlice 25 1 #[(0, Operand.tmp 9)], type := 25, pos := "iter.go:52", after := #[{ on := 1, ground := Ground.data }], guard := none }, { dst := some 11, op := Op.call { callee := Callee.builtin Builtin.append, args := #[Operand.tmp 8, Operand.tmp 10], argTypes := #[25, 25] }, type := 25, pos := "iter.go:52", after := #[{ on := 0, ground := Ground.data }, { on := 2, ground := Ground.data }], guard := none }, { dst := none, op := Op.store 25 (Operand.tmp 2) (Operand.tmp 11), type := 0, pos := "iter.go:52", after := #[{ on := 3, ground := Ground.data }, { on := 3, ground := Ground.chain }, { on := 0, ground := Ground.phase }, { on := 1, ground := Ground.phase }, { on := 2, ground := Ground.phase }, { on := 3, ground := Ground.phase }], guard := none }] false))
def Sq.apRec (fn : FuncId) (sv : Value) (Bs D : Nat) (st : LoopState) (pend : Option Code) : Loop :=
  { state := st, pending := pend, fn, tmps := #[.slice none 0 0, sv, .pointer (some ⟨Bs, 0, none⟩), undef, .slice none 0 0, undef, sv, undef, undef, undef, undef, undef, undef], params := #[7], assign := Sq.apAssign, body := Sq.apBody, defers := D }
structure Sq.ApAt (w0 : World) (fn : FuncId) (sv : Value) (Bs l D : Nat) (ss : List Int) (W : World) : Prop where
  box : ∃ v, W.heap[Bs]? = some (.cells #[v] 25 (0, 0)) ∧ W.ownsRow w0.heap.size 50 1 v ss.length (ss.map encU) ∧ (v = .slice none 0 0 ↔ ss = [])
  L : W.heap[l]? = some (.loop (Sq.apRec fn sv Bs D .ready none))
  K : W.heap[D]? = some (.deferred (some []))
  below : Below w0.heap.size w0 W
theorem Zcn (W : World) (l : Nat) (o : Obj) : W.grownBy (W.putObj l o) (some l) :=
  ⟨rfl, rfl, rfl, by simp, fun k _ hk => World.putObj_heap_other (fun e => hk (by rw [e]))⟩
theorem grownBy_setCell0 (W : World) (b : Nat) (v : Value) : W.grownBy (W.setCell ⟨b, 0, none⟩ v) (some b) :=
  ⟨rfl, rfl, rfl, (KeepsWalks.setCell W _ v).size, fun k _ hk => Below.heap_setCell _ _ _ k (fun e => hk (by rw [e]))⟩
theorem Zen {W : World} {base : Nat} {e : TypeId} {size : Nat} {v : Value} {k : Nat} {xs : List Value} (h : W.ownsRow base e size v k xs) {j : Nat} {o : Obj} (hj : W.heap[j]? = some o) (hno : ∀ cur, o ≠ .cells cur e (0, 0)) :
    v.ownBlock = none ∨ v.ownBlock ≠ some j := by
  rcases h.2 with ⟨rfl, _⟩ | ⟨g, cap, cur, rfl, _, hgb, _⟩
  · exact .inl rfl
  · refine .inr fun e' => ?_
    have : g = j := by simpa [Value.ownBlock] using e'
    subst this; rw [hgb] at hj; cases hj; exact hno cur rfl
theorem cell_of_box {W : World} {B : Nat} {v : Value} {t : TypeId} (h : W.heap[B]? = some (.cells #[v] t (0, 0))) : W.cell? ⟨B, 0, none⟩ = some v ∧ W.frozen? ⟨B, 0, none⟩ = false := by
  constructor <;> simp [World.cell?, World.frozen?, h]
theorem heap_setCell_box {W : World} {B : Nat} {v : Value} {t : TypeId} (v' : Value) (h : W.heap[B]? = some (.cells #[v] t (0, 0))) : (W.setCell ⟨B, 0, none⟩ v').heap[B]? = some (.cells #[v'] t (0, 0)) := by
  obtain ⟨hlt, hk⟩ := Array.getElem?_eq_some_iff.1 h
  show (W.heap.modify B _)[B]? = _
  rw [Array.getElem?_eq_getElem (by rw [Array.size_modify]; exact hlt), Array.getElem_modify_self, hk]
  rfl
theorem ownsRow_not_walk {W : World} {base : Nat} {e : TypeId} {size : Nat} {v : Value} {k : Nat} {xs : List Value} (h : W.ownsRow base e size v k xs) : ∀ (j : Nat) (o : Obj), v.ownBlock = some j → W.heap[j]? = some o → o.isWalk = false := by
  intro j o hj ho
  rcases h.2 with ⟨rfl, _⟩ | ⟨g, cap, cur, rfl, _, hgb, _⟩
  · simp [Value.ownBlock] at hj
  · have : g = j := by simpa [Value.ownBlock] using hj
    subst this; rw [hgb] at ho; cases ho; rfl
theorem Sq.infoU : (Tryz.prog.info? 50).map (fun i => (i.zero, i.size, i.bytes)) = some (some (.int .u16 0), 1, 2) := by kernel_rfl
set_option maxRecDepth 100000 in
set_option maxHeartbeats 2000000 in
theorem Sq.apYield (F : Fence) (m : Nat) (w0 : World) (fn : FuncId) (hfn : F.fn fn) (sv : Value) (Bs l D : Nat) (hBl : Bs ≠ l) (hDl : D ≠ l) (hDB : D ≠ Bs) (h0B : w0.heap.size ≤ Bs) (h0l : w0.heap.size ≤ l)
    (N : Nat) (hN : N ≤ maxLen) (hNb : N * 2 ≤ 140737488355328) (ss : List Int) (x : Int) (W : World) (h : Sq.ApAt w0 fn sv Bs l D ss W) (hlen : ss.length < N) :
    YieldAt F m Tryz.prog l #[encU x] W fun e W' => e = .returned (.bool true) ∧ Sq.ApAt w0 fn sv Bs l D (ss ++ [x]) W' ∧ KeepsWalks W W' := by
  obtain ⟨i0, hi, hz0, hz1, hz2⟩ := info_parts Sq.infoU
  obtain ⟨v, hv, hrow, _⟩ := h.box
  refine ⟨fn, #[.slice none 0 0, sv, .pointer (some ⟨Bs, 0, none⟩), undef, .slice none 0 0, undef, sv, encU x, undef, undef, undef, undef, undef], Sq.apAssign, Sq.apBody, by simpa [Sq.apRec] using run_yield (P := Tryz.prog) (args := #[encU x]) h.L rfl, roundIn_of_wpIn hfn ?_⟩
  have hl : l < W.heap.size := (Array.getElem?_eq_some_iff.1 h.L).1
  have hbr := run_beginRound (P := Tryz.prog) h.L rfl
  obtain ⟨W2, hW2⟩ : ∃ W2, W.putObj l (.loop { Sq.apRec fn sv Bs D .ready none with state := .busy }) = W2 := ⟨_, rfl⟩
  rw [hW2] at hbr
  have hg2 : W.grownBy W2 (some l) := by rw [← hW2]; exact Zcn _ _ _
  have hk2 : KeepsWalks W W2 := by rw [← hW2]; exact KeepsWalks.putObj _ h.L rfl
  have hv2 : W2.heap[Bs]? = some (.cells #[v] 25 (0, 0)) := by rw [← hW2]; exact (World.putObj_heap_other hBl).trans hv
  have hK2 : W2.heap[D]? = some (.deferred (some [])) := by rw [← hW2]; exact (World.putObj_heap_other hDl).trans h.K
  have hL2 : W2.heap[l]? = some (.loop { Sq.apRec fn sv Bs D .ready none with state := .busy }) := by rw [← hW2]; exact World.putObj_heap_same hl
  have hrow2 : W2.ownsRow w0.heap.size 50 1 v ss.length (ss.map encU) := hrow.kept hg2 (Zen hrow h.L (fun cur e => by cases e))
  have hb2 : Below w0.heap.size w0 W2 := h.below.grown hg2 h.below.size (fun k e => by cases e; exact h0l)
  obtain ⟨hc2, hf2⟩ := cell_of_box hv2
  have hBlt : Bs < W2.heap.size := (Array.getElem?_eq_some_iff.1 hv2).1
  have hl2 : l < W2.heap.size := (Array.getElem?_eq_some_iff.1 hL2).1
  have hDlt : D < W2.heap.size := (Array.getElem?_eq_some_iff.1 hK2).1
  have ne_of : ∀ {j : Nat} {o : Obj}, W2.heap[j]? = some o → (∀ cur, o ≠ .cells cur 50 (0, 0)) → some j ≠ v.ownBlock := fun hj hno => by
    rcases Zen hrow2 hj hno with e | e
    · rw [e]; simp
    · exact fun e' => e e'.symm
  clear hW2
  unfold Sq.apAssign
  gi_wp2_with (rw [Oper.semAt_eq _ _ _ (fun c h => by cases h)]; go_simp; try go_bits)
  unfold Sq.apBody
  gi_wp2_with (first
    | (gi_at_builtin; refine wpListIn_append_own _ rfl _ _ 25 rfl w0.heap.size 50 i0 (.int .u16 0) 1 2 Tryz.underlying25 hi hz0 hz1 hz2 rfl (by decide) _ _ _ rfl (hrow2.alloc _) ⟨W2.heap.size, 0, none⟩ 1 1 [encU x] rfl rfl (cell_one_new _ _ _) (by simp [Value.oneCell', encU]) (by omega) (by omega) (by have := hb2.size; simp; omega) ?_; intro v' w3 hown' hg3 hnil3
       have hv3 : w3.heap[Bs]? = some (.cells #[v] 25 (0, 0)) := (hg3.block Bs (by simp; omega) (ne_of hv2 (fun cur e => by cases e))).trans ((Below.heap_alloc _ _ Bs hBlt).trans hv2)
       obtain ⟨hc3, hf3⟩ := cell_of_box hv3
       obtain ⟨g', cap', cur', rfl, hbase', hgb', hr1, hr2, hr3, hr4⟩ : ∃ g' cap' cur', v' = .slice (some ⟨g', 0, none⟩) (ss.length + 1) cap' ∧ w0.heap.size ≤ g' ∧ w3.heap[g']? = some (.cells cur' 50 (0, 0)) ∧ ss.length + 1 ≤ cap' ∧ cap' ≤ maxLen ∧ cur'.size = cap' * 1 ∧ cur'.toList.take ((ss.length + 1) * 1) = ss.map encU ++ [encU x] := by
         rcases hown'.2 with ⟨_, h0⟩ | h'
         · exact absurd h0 (by omega)
         · exact h'
       go_frame)
    | (rw [Oper.semAt_eq _ _ _ (fun c h => by cases h)]; go_simp; try go_bits))
  have hg3' : (W2.alloc (.cells #[encU x] 50)).grownBy w3 v.ownBlock := hg3
  have hL3 : w3.heap[l]? = some (.loop { Sq.apRec fn sv Bs D .ready none with state := .busy }) := (hg3'.block l (by simp; omega) (ne_of hL2 (fun cur e => by cases e))).trans ((Below.heap_alloc _ _ l hl2).trans hL2)
  have hK3 : w3.heap[D]? = some (.deferred (some [])) := (hg3'.block D (by simp; omega) (ne_of hK2 (fun cur e => by cases e))).trans ((Below.heap_alloc _ _ D hDlt).trans hK2)
  obtain ⟨w4, hw4⟩ : ∃ w4, w3.setCell ⟨Bs, 0, none⟩ (.slice (some ⟨g', 0, none⟩) (ss.length + 1) cap') = w4 := ⟨_, rfl⟩
  rw [hw4]
  have hg4 : w3.grownBy w4 (some Bs) := by rw [← hw4]; exact grownBy_setCell0 _ _ _
  have hv4 : w4.heap[Bs]? = some (.cells #[.slice (some ⟨g', 0, none⟩) (ss.length + 1) cap'] 25 (0, 0)) := by rw [← hw4]; exact heap_setCell_box _ hv3
  have hL4 : w4.heap[l]? = some (.loop { Sq.apRec fn sv Bs D .ready none with state := .busy }) := (hg4.block l (Array.getElem?_eq_some_iff.1 hL3).1 (fun e => hBl (by cases e; rfl))).trans hL3
  have hK4 : w4.heap[D]? = some (.deferred (some [])) := (hg4.block D (Array.getElem?_eq_some_iff.1 hK3).1 (fun e => hDB (by cases e; rfl))).trans hK3
  have hrow4 := hown'.kept hg4 (Zen hown' hv3 (fun cur e => by cases e))
  have hl4 : l < w4.heap.size := (Array.getElem?_eq_some_iff.1 hL4).1
  have hb3 : Below w0.heap.size w0 w3 := (hb2.alloc hb2.size _).grown hg3' (by have := hb2.size; simp; omega) (fun k e => (hrow2.lt k e).1)
  have hb4 : Below w0.heap.size w0 w4 := hb3.grown hg4 hb3.size (fun k e => by cases e; exact h0B)
  have hk4 : KeepsWalks W w4 := ((hk2.trans (KeepsWalks.alloc _ _)).trans (KeepsWalks.of_grownBy hg3' (ownsRow_not_walk (hrow2.alloc _)))).trans (by rw [← hw4]; exact KeepsWalks.setCell _ _ _)
  clear hw4
  refine ⟨_, _, run_endRound none hL4, rfl, ⟨⟨_, (World.putObj_heap_other hBl).trans hv4, ?_, by simp⟩, World.putObj_heap_same hl4, (World.putObj_heap_other hDl).trans hK4, hb4.grown (Zcn _ _ _) hb4.size (fun k e => by cases e; exact h0l)⟩, hk4.trans (KeepsWalks.putObj _ hL4 rfl)⟩
  have := hrow4.kept (Zcn w4 l (.loop { { Sq.apRec fn sv Bs D .ready none with state := .busy } with state := if (none : Option Code).isNone then .ready else .done, pending := none })) (Zen hrow4 hL4 (fun cur e => by cases e))
  simpa using this
set_option maxRecDepth 100000 in
set_option maxHeartbeats 2000000 in
theorem Sq.appendSeq_in (F : Fence) (n : Nat) (h11 : F.fn 221) (hro : F.round = none) (hn : 2 ≤ n) (g : Nat) (lb : Array Value) (hFg : F.fn g) (eg : ∀ args w, (callFunc g args).run Tryz.prog w = .ok (.enter g args) w)
    (S : List Int → Prop) (N : Nat) (hN : N ≤ maxLen) (hNb : N * 2 ≤ 140737488355328) (w : World) (hseq : SeqU F (n - 1) g lb S N w) :
    CallsIn F n Tryz.prog 221 #[.slice none 0 0, .func (.func g) #[] lb] w fun e w' => ∃ (v : Value) (ss : List Int), e = .returned v ∧ S ss ∧ w'.ownsRow w.heap.size 50 1 v ss.length (ss.map encU) ∧ (v = .slice none 0 0 ↔ ss = []) ∧ Below w.heap.size w w' := by
  have h1 : 1 ≤ n := by omega
  refine callsIn_of_wp_marks Tryz.func221 rfl h11 ?_ hro
  simp only [Tryz.ntmps221, List.size_toArray, List.length_cons, List.length_nil, Nat.reduceAdd, Nat.reduceSub, Array.replicate_succ, Array.replicate_zero, List.push_toArray, List.append_toArray, List.nil_append, List.cons_append]
  gi_wp2
  refine wpIn_rangeFunc ?_
  intro fn hfn
  rw [hro]
  obtain ⟨W0, hW0⟩ : ∃ W0, w.alloc (.cells #[.slice none 0 0] 25) = W0 := ⟨_, rfl⟩
  have hs0 : W0.heap.size = w.heap.size + 1 := by rw [← hW0]; simp
  have hv0 : W0.heap[w.heap.size]? = some (.cells #[.slice none 0 0] 25 (0, 0)) := by rw [← hW0]; exact World.alloc_heap_new w _
  have hb0 : Below w.heap.size w W0 := by rw [← hW0]; exact (Below.refl _ w).alloc (Nat.le_refl _) _
  rw [hW0]
  obtain ⟨W1, hW1⟩ : ∃ W1, (W0.alloc (.deferred (some []))).alloc (.loop (Sq.apRec fn (.func (.func g) #[] lb) w.heap.size W0.heap.size .ready none)) = W1 := ⟨_, rfl⟩
  have hold : ∀ k, k < W0.heap.size → W1.heap[k]? = W0.heap[k]? := fun k hk => by
    rw [← hW1]; exact (Below.heap_alloc _ _ k (by simp; omega)).trans (Below.heap_alloc _ _ k hk)
  have hb1 : Below w.heap.size w W1 := by rw [← hW1]; exact (hb0.alloc hb0.size _).alloc (by have := hb0.size; simp; omega) _
  have hs1 : W1.heap.size = W0.heap.size + 2 := by rw [← hW1]; simp
  have hM : Sq.ApAt w fn (.func (.func g) #[] lb) w.heap.size (W0.heap.size + 1) W0.heap.size [] W1 :=
    ⟨⟨_, (hold w.heap.size (by omega)).trans hv0, ⟨rfl, .inl ⟨rfl, rfl⟩⟩, by simp⟩,
     by rw [← hW1]; have := World.alloc_heap_new (W0.alloc (.deferred (some []))) (.loop (Sq.apRec fn (.func (.func g) #[] lb) w.heap.size W0.heap.size .ready none)); rwa [World.size_alloc] at this,
     by rw [← hW1]; exact (Below.heap_alloc _ _ _ (by simp)).trans (World.alloc_heap_new W0 _), hb1⟩
  refine ⟨W0.heap.size + 1, [{ target := .collected W0.heap.size, args := #[] }], W1, { target := .fn (.func g) lb, args := #[.func (.yield (W0.heap.size + 1)) #[] #[]] }, W1, g,
    #[.func (.yield (W0.heap.size + 1)) #[] #[]] ++ lb, W1, ?_, ?_, ?_, ?_, fun _ => h1, ?_⟩
  · rw [← hW1]; exact run_enterLoop_outer _ _ _ _ _
  · simp [resolve, go_sem]
  · intro f' hf'; simp [Target.leads] at hf'; subst hf'; exact hFg
  · simp [invoke, go_sem, eg]
  · refine (hseq (W0.heap.size + 1) (Sq.ApAt w fn (.func (.func g) #[] lb) w.heap.size (W0.heap.size + 1) W0.heap.size) W1 hb1 (fun _ _ h => h.below)
      (fun pre x W hJ hl => Sq.apYield F (n - 1 - 1) w fn hfn _ w.heap.size (W0.heap.size + 1) W0.heap.size (by omega) (by omega) (by omega) (Nat.le_refl _) (by omega) N hN hNb pre x W hJ hl) hM).mono ?_
    rintro e W2 ⟨⟨v0, rfl⟩, ss, hS, h2⟩
    obtain ⟨v, hv, hrow, hnil⟩ := h2.box
    have hend := run_endLoop (P := Tryz.prog) h2.L (by simp [Sq.apRec])
    obtain ⟨W3, hW3⟩ : ∃ W3, W2.putObj (W0.heap.size + 1) (.loop { Sq.apRec fn (.func (.func g) #[] lb) w.heap.size W0.heap.size .ready none with state := .exhausted }) = W3 := ⟨_, rfl⟩
    rw [hW3] at hend
    have hg3 : W2.grownBy W3 (some (W0.heap.size + 1)) := by rw [← hW3]; exact Zcn _ _ _
    have hv3 : W3.heap[w.heap.size]? = some (.cells #[v] 25 (0, 0)) := by rw [← hW3]; exact (World.putObj_heap_other (by omega)).trans hv
    have hK3 : W3.heap[W0.heap.size]? = some (.deferred (some [])) := by rw [← hW3]; exact (World.putObj_heap_other (by omega)).trans h2.K
    have hrow3 := hrow.kept hg3 (Zen hrow h2.L (fun cur e => by cases e))
    have hb3 : Below w.heap.size w W3 := h2.below.grown hg3 h2.below.size (fun k e => by cases e; omega)
    obtain ⟨hc3, hf3⟩ := cell_of_box hv3
    clear hW3
    refine ⟨none, W3, hend, ?_⟩
    gi_wp2
    rw [← hs0]
    refine ⟨by simp, .inl ⟨_, _, rfl, run_takeDeferred hK3, ?_⟩⟩
    exact ⟨_, results_tmp rfl _ _ _, v, ss, rfl, hS, hrow3.kept (Zcn _ _ _) (Zen hrow3 hK3 (fun cur e => by cases e)), hnil, hb3.grown (Zcn _ _ _) hb3.size (fun k e => by cases e; omega)⟩
end Go.Proofs.YtoelbgjpmpoolaaGreat
namespace Go.Proofs.YtoelbgjpmpoolaaGreat
open Go Dv Go.RowKit Go.Maps Go.Sort Go.Shelf
attribute [local go_sem] Oper.semAt_some
set_option maxRecDepth 100000 in
set_option maxHeartbeats 2000000 in
theorem Sq.values1_in (F : Fence) (n : Nat) (h7 : F.fn 205) (hro : F.round = none) (hn : 1 ≤ n) (Bs bo b off cap : Nat) (zs : List Int) (hreach : zs.length * 2 ≤ 140737488351232) (w : World) (hBs0 : Bs < w.heap.size) (hb : b < w.heap.size)
    (hBs : w.cell? ⟨Bs, bo, none⟩ = some (.slice (some ⟨b, off, none⟩) zs.length cap)) (hc : ∀ j, j < zs.length → w.cell? ⟨b, off + j, none⟩ = some (.int .u16 (zs[j]?.getD 0))) :
    SeqU F n 205 #[.pointer (some ⟨Bs, bo, none⟩)] (fun ss => ss = zs) zs.length w := by
  intro l J W hW hJB hY h0
  have hBsW := (hW.cell (p := ⟨Bs, bo, none⟩) hBs0).trans hBs
  have hcW : ∀ W', RowKit.Below w.heap.size w W' → ∀ k, k < zs.length → W'.cell? ⟨b, off + k, none⟩ = some (.int .u16 (zs[k]?.getD 0)) := fun W' h k hk => (h.cell (p := ⟨b, off + k, none⟩) hb).trans (hc k hk)
  refine callsIn_of_wp Tryz.func205 rfl h7 ?_ hro
  simp only [Tryz.ntmps205, List.size_toArray, List.length_cons, List.length_nil, Nat.reduceAdd, Nat.reduceSub, Array.replicate_succ, Array.replicate_zero, List.push_toArray, List.append_toArray, List.nil_append, List.cons_append]
  gi_wp2
  gi_loopw [7] (fun i wr => ∃ k : Nat, k ≤ zs.length ∧ i = .int .i64 k ∧ J (zs.take k) wr)
    (fun i _ => zs.length - (intOf i).toNat)
  case atStart => exact ⟨0, Nat.zero_le _, rfl, by simpa using h0⟩
  case round =>
    obtain ⟨k, hk, rfl, hJs⟩ := hrel
    by_cases hlt : k < zs.length
    · have hcx' := hcW wr (hJB _ _ hJs) k hlt
      have hJx : ∀ W', J (zs.take k ++ [zs[k]?.getD 0]) W' → J (zs.take (k + 1)) W' := fun W' h => by rw [List.take_add_one]; simpa [List.getElem?_eq_getElem hlt] using h
      generalize zs[k]?.getD 0 = x at hcx' hJx
      obtain ⟨fn, tmps, assign, body, hy, hR⟩ := hY _ x wr hJs (by rw [List.length_take]; omega)
      unfold encU at hy
      gi_wp2
      refine hR.mono ?_
      rintro e W3 ⟨rfl, hJ3, _⟩
      gi_wp2
      go_roundw
      case rel => exact ⟨k + 1, by omega, by simp, hJx _ hJ3⟩
      case measure => simp [intOf]; omega
    · obtain rfl : k = zs.length := by omega
      gi_wp2
      go_end0
      exact ⟨⟨_, rfl⟩, _, rfl, by simpa using hJs⟩
set_option maxRecDepth 100000 in
set_option maxHeartbeats 1000000 in
theorem Sq.values1_nil (F : Fence) (n : Nat) (h7 : F.fn 205) (hro : F.round = none) (Bs bo cap : Nat) (p : Option Addr) (w : World) (hBs0 : Bs < w.heap.size)
    (hBs : w.cell? ⟨Bs, bo, none⟩ = some (.slice p 0 cap)) :
    SeqU F n 205 #[.pointer (some ⟨Bs, bo, none⟩)] (fun ss => ss = []) 0 w := by
  intro l J W hW hJB hY h0
  have hBsW := (hW.cell (p := ⟨Bs, bo, none⟩) hBs0).trans hBs
  refine callsIn_of_wp Tryz.func205 rfl h7 ?_ hro
  simp only [Tryz.ntmps205, List.size_toArray, List.length_cons, List.length_nil, Nat.reduceAdd, Nat.reduceSub, Array.replicate_succ, Array.replicate_zero, List.push_toArray, List.append_toArray, List.nil_append, List.cons_append]
  gi_wp2
  gi_loopw [7] (fun i wr => i = .int .i64 0 ∧ J [] wr) (fun _ _ => 0)
  case atStart => exact ⟨rfl, h0⟩
  case round =>
    obtain ⟨rfl, hJs⟩ := hrel
    gi_wp2
    go_end0
    exact ⟨⟨_, rfl⟩, _, rfl, hJs⟩
end Go.Proofs.YtoelbgjpmpoolaaGreat
namespace Go.Proofs.YtoelbgjpmpoolaaGreat
open Go Dv Go.RowKit Go.Maps Go.Sort Go.Shelf
set_option linter.unusedSimpArgs false
theorem fr_below {w w' : World} (h : RowKit.Below w.heap.size w w') : Fr (fun _ => False) w w' :=
  ⟨h.os, h.tape, h.output, h.size, fun b hb _ => h.block b hb, fun a ha => by simp only [World.frozen?, h.block a.block ha]⟩
theorem c_AppendSeq (l : List Int) (hl : l.length ≤ maxL) : FO Tryz.prog 221 [.nsl, .fn 205 [.ip [u16s l]]] 1 l.length (fun i => [.int .u16 (l.getD i 0)]) := by
  refine ⟨⟨_, Tryz.func221, rfl, by decide +kernel⟩, fun X w vals hX hv => ?_⟩
  simp only [Vs, V, Vc, u16s] at hv
  obtain ⟨_, _, rfl, rfl, _, _, rfl, ⟨a, rfl, _, _, rfl, ⟨Bs, bo, rfl, hBs, hnX, ⟨v, hcell, _, p, c, rfl, hnc, _, hrow⟩, _⟩, rfl⟩, rfl⟩ := hv
  have hu : ∀ i, i < l.length → IntKind.u16.min ≤ l.getD i 0 ∧ l.getD i 0 ≤ IntKind.u16.max := fun i hi => by
    rcases hrow with h0 | ⟨b, o, _, _, _, hc⟩
    · omega
    · exact (hc i hi).2.1.choose_spec.2.2.2
  have key : ∃ N, SeqU Fence.wide 1 205 #[.pointer (some ⟨Bs, bo, none⟩)] (fun ss => ss = l) N w ∧ N ≤ maxLen ∧ N * 2 ≤ 140737488355328 := by
    rcases hrow with h0 | ⟨b, o, rfl, hb, _, hc⟩
    · have : l = [] := List.length_eq_zero_iff.1 h0
      subst this
      exact ⟨0, Sq.values1_nil Fence.wide 1 trivial rfl Bs bo c p w hBs hcell, by decide, by decide⟩
    · refine ⟨l.length, Sq.values1_in Fence.wide 1 trivial rfl (by omega) Bs bo b o c l (by simp only [maxL] at hl; omega) w hBs hb hcell (fun j hj => ?_), by simp only [maxL] at hl; simp only [maxLen]; omega, by simp only [maxL] at hl; omega⟩
      obtain ⟨_, ⟨v, h1, _, h2, _⟩, _⟩ := hc j hj
      rw [Nat.mul_one] at h1
      rw [h1, h2]; simp
  obtain ⟨N, hseq, hN, hN2⟩ := key
  refine (callsIn_wide.1 (Sq.appendSeq_in Fence.wide 2 trivial rfl (by omega) 205 #[.pointer (some ⟨Bs, bo, none⟩)] trivial (fun args w => run_callFunc ⟨_, Tryz.func205, rfl, by decide +kernel⟩ args w) (fun ss => ss = l) N hN hN2 w hseq)).mono ?_
  rintro e w' ⟨v, ss, rfl, rfl, hown, hnil, hb⟩
  refine ⟨v, rfl, fr_below hb, hl, ?_⟩
  rcases hown.2 with ⟨h1, h2⟩ | ⟨g, cap, cur, h1, h2, h3, h4, h5, h6, h7⟩
  · exact .inl ⟨h1, h2⟩
  · refine .inr ⟨_, g, cap, h1, h2, .inr rfl, cur, 50, h3, h4, h6, fun i hi => ⟨rfl, ?_⟩⟩
    simp only [Vc, V]
    have hg : cur[i]? = some (.int .u16 (ss.getD i 0)) := by
      have := congrArg (fun l => l[i]?) h7
      simp only [Nat.mul_one, List.getElem?_take, hi, if_true, List.getElem?_map] at this
      rw [← Array.getElem?_toList, this, List.getElem?_eq_getElem hi, List.getD_eq_getElem?_getD, List.getElem?_eq_getElem hi]; rfl
    refine ⟨⟨_, ?_, rfl, rfl, ?_⟩, trivial⟩
    · simp [World.cell?, h3, hg]
    · exact hu i hi
theorem Rel.bp {h : Zan} {id : Dv.Id} {imm : Bool} {sz k : Nat} {f : Nat → List AV} {g : List AV} (hh : h id = some (.row imm sz k f)) (hk : 0 < k) (hm : Rels h (f 0) g) : Rel h (.bp id 0) (.ip g) := fun X ι w v s hv => by
  simp only [V] at hv ⊢
  cases hl : ι id with
  | none => simp [hl] at hv
  | some l =>
    cases l with
    | ghost => simp [hl] at hv
    | nil => simp [hl] at hv
    | «at» b c =>
      simp only [hl] at hv
      obtain ⟨arr, TT, hc, h4, h5, h6⟩ := s.rel id _ _ hh hl
      refine ⟨b, 0, hv, s.lt hl, s.apart id b c hl, ?_⟩
      obtain ⟨h7, h8⟩ := h6 0 hk
      have h9 := Zch imm _ _ _ h8
      rw [Nat.zero_mul] at h9
      obtain ⟨vs, hvl, hvc, hvV, hv1⟩ := Vc_read h9
      exact Vc_of_Vs (hm X ι w vs s hvV) hvc hv1
theorem c_Values (l : List Int) : FC Tryz.prog 182 [u16s l] (.fn 205 [.ip [u16s l]]) := by
  refine Zav tok Tryz.func182 rfl (by decide +kernel) (Nat.le_of_ble_eq_true rfl) ?_
  (repeat' first | refine Zac ?_ | (refine Zab tok (by rfl) ?_; conv => whnf) | (refine Zaj ?_; conv => whnf))
  exact ⟨_, rfl, Rel.fn (Rels.cons (Rel.bp rfl Nat.zero_lt_one (Rels.imm rfl)) Rels.nil)⟩
theorem c_Collect (l : List Int) (hl : l.length ≤ maxL) : FO Tryz.prog 203 [.fn 205 [.ip [u16s l]]] 1 l.length (fun i => [.int .u16 (l.getD i 0)]) := by
  refine Zei tok Tryz.func203 rfl (by decide +kernel) (Nat.le_of_ble_eq_true rfl) ?_
  (repeat' first | refine Zac ?_ | (refine Zab tok (by rfl) ?_; conv => whnf))
  refine .inl ⟨_, _, _, uG (QC.fo (rd := []) (c_AppendSeq l hl) (Ress.imms rfl) (.inl rfl) rfl), ?_⟩
  conv => whnf
  (repeat' (refine Zaj ?_; conv => whnf))
  exact ⟨_, rfl, .rs rfl (Nat.le_refl _) rfl (fun _ _ => rfl)⟩
theorem c_Sorted (l : List Int) (hl : l.length ≤ maxL) : FO Tryz.prog 181 [.fn 205 [.ip [u16s l]]] 1 l.length (fun i => [.int .u16 ((Zdr l).getD i 0)]) := by
  refine Zei tok Tryz.func181 rfl (by decide +kernel) (Nat.le_of_ble_eq_true rfl) ?_
  (repeat' first | refine Zac ?_ | (refine Zab tok (by rfl) ?_; conv => whnf))
  refine .inl ⟨_, _, _, uG (QC.fo (rd := []) (c_Collect l hl) (Ress.imms rfl) (.inl rfl) rfl), ?_⟩
  conv => whnf
  (repeat' first | refine Zac ?_ | (refine Zab tok (by rfl) ?_; conv => whnf))
  have hS := c_Sort l.length l.toArray (by simp)
  refine .inr ⟨_, _, _, uG (QH.of (dead := []) [(i0, .old (5, 0, 0), arow l.length l.toArray)] hS rfl (.old rfl (BLe.row rfl (fun x h2 => ?_)) .nil) (.cons (.eq rfl) .nil) [(i0, (5, 0, 0))] rfl (.cons (b' := .row true 1 l.length (fun i => [.int .u16 ((Zdr l).getD i 0)])) rfl (BLe.row rfl (fun x h2 => ?_)) .nil) rfl), ?_⟩
  · show [AV.int .u16 (l.getD x 0)] = [.int .u16 l.toArray[x]!]
    rw [bang_list]
  · show [AV.int .u16 (Go.Sort.sort ltInt l.toArray)[x]!] = [.int .u16 ((Zdr l).getD x 0)]
    rw [← bang_list]; simp [Zdr]
  conv => whnf
  (repeat' first | refine Zac ?_ | (refine Zab tok (by rfl) ?_; conv => whnf) | (refine Zaj ?_; conv => whnf))
  exact ⟨_, rfl, .rs rfl (Nat.le_refl _) rfl (fun _ _ => rfl)⟩
end Go.Proofs.YtoelbgjpmpoolaaGreat
namespace Go.Proofs.YtoelbgjpmpoolaaGreat
open Go Dv
set_option maxRecDepth 10000
set_option linter.unusedSimpArgs false
theorem sorted_perm (l : List Int) : (Zdr l).Perm l := by rw [sorted_eq]; exact List.mergeSort_perm l _
theorem sorted_asc (l : List Int) : ∀ i j, i < j → j < (Zdr l).length → (Zdr l).getD i 0 ≤ (Zdr l).getD j 0 := by
  have h : (Zdr l).Pairwise (fun x y => decide (x ≤ y) = true) := by
    rw [sorted_eq]
    exact List.pairwise_mergeSort (fun a b c h1 h2 => by simp at *; omega) (fun a b => by simp; omega) l
  intro i j hij hj
  rw [List.pairwise_iff_getElem] at h
  have := h i j (by omega) hj hij
  rw [Zca _ (by omega), Zca _ hj]; simpa using this
theorem runs_sorted (l : List Int) : runs (Zdr l).toArray l.length = l.length ↔ l.Nodup := by
  have h := runs_all (sorted_asc l) l.length (by rw [sorted_len]; omega)
  rw [h, ← (sorted_perm l).nodup_iff]
  constructor
  · intro hh; exact nodup_getD (fun i hi k hk => hh i (by rw [sorted_len] at hi; exact hi) k hk)
  · intro hn x hx y hy he
    exact not_nodup (by rw [sorted_len]; exact hx) hy he hn
theorem c_lpad : LPad := by
  intro m f b
  refine Zav tok Tryz.func138 rfl (by decide +kernel) (Nat.le_of_ble_eq_true rfl) ?_
  refine Zas 1 (fun hl => ?_)
  have hl0 : b.pad.catch_.length ≤ maxL := hl.2.2.1.1
  (repeat' first | refine Zac ?_ | (refine Zab tok (by rfl) ?_; conv => whnf) | (refine Zag ?_; conv => whnf) | refine Zaf rfl (fun hb => ?_) (fun hb => ?_))
  · refine .inl ⟨_, _, _, uG (QC.sc (rd := []) (c_samePad b.pad ⟨0, [], false, false⟩) (.cons (.imm rfl) (.cons (.agg (.cons (.imm rfl) (.cons .nsl (.cons (.imm rfl) (.cons (.imm rfl) .nil))))) .nil)) rfl), ?_⟩
    conv => whnf
    (repeat' (refine Zaj ?_; conv => whnf))
    refine ⟨_, rfl, Rel.bool ?_⟩
    rw [decide_eq_decide]
    obtain ⟨land, ⟨d, c, al, cl⟩, _, _⟩ := b
    simp at hb
    simp [PadP, hb, and_assoc]
  refine .inl ⟨_, _, _, uG (QC.fc (c_Values b.pad.catch_) rfl), ?_⟩
  conv => whnf
  skip
  refine .inl ⟨_, _, _, uG (QC.fo (rd := []) (c_Sorted b.pad.catch_ hl0) (Ress.imms rfl) (.inl rfl) rfl), ?_⟩
  conv => whnf
  (repeat' first | refine Zac ?_ | (refine Zap tok mix (by rfl) ?_; conv => whnf))
  refine .inl ⟨_, _, _, uG (QC.fc (c_place m f b.pad.dst) rfl), ?_⟩
  conv => whnf
  skip
  have hC := c_Compact b.pad.catch_.length (Zdr b.pad.catch_).toArray (by simp [sorted_len])
  refine .inl ⟨_, _, _, uG (QC.turn (i := (18, 0, 0)) (rd := [(18, 0, 0)]) (b := .row true 1 0 (fun _ => [])) (List.mem_singleton.2 rfl) (fun h' hh => QH.of (dead := []) [(i0, .old (18, 0, 0), arow b.pad.catch_.length (Zdr b.pad.catch_).toArray)] hC rfl (.old (hh _ (List.mem_singleton.2 rfl)) (BLe.row rfl (fun x h2 => ?_)) .nil) (.cons (.eq rfl) .nil) [(i0, (18, 0, 0))] rfl (.cons (b' := .row true 1 0 (fun _ => [])) rfl (BLe.rowW (Nat.zero_le _) (fun x h2 => absurd h2 (Nat.not_lt_zero x))) .nil) rfl)), ?_⟩
  · show [AV.int .u16 ((Zdr b.pad.catch_).getD x 0)] = [.int .u16 (Zdr b.pad.catch_).toArray[x]!]
    rw [bang_list]
  conv => whnf
  (repeat' (refine Zaj ?_; conv => whnf))
  refine ⟨_, rfl, Rel.bool ?_⟩
  have h1 := runs_sorted b.pad.catch_
  generalize runs (Zdr b.pad.catch_).toArray b.pad.catch_.length = rr at h1 ⊢
  have hland : b.landing = true := by simpa using hb
  rw [Bool.eq_iff_iff]
  have e1 : ((rr : Int) = (b.pad.catch_.length : Int)) ↔ b.pad.catch_.Nodup := by rw [← h1]; omega
  have e2 : ((b.pad.catch_.length : Int) ≤ 8) ↔ b.pad.catch_.length ≤ 8 := by omega
  have e3 : (0 : Int) < (b.pad.catch_.length : Int) ↔ b.pad.catch_ ≠ [] := by
    rw [← List.length_pos_iff]; omega
  simp only [cond_eq_ite, Bool.if_false_right, Bool.if_true_left, Bool.and_eq_true, Bool.or_eq_true, decide_eq_true_eq, e1, e2, e3, PadP, hland, Bool.decide_eq_true]
  simp
  constructor
  · rintro ⟨⟨⟨h2, h3⟩, h4⟩, h5⟩
    refine ⟨h3, h4, h2, ?_⟩
    rcases h5 with (h5 | h5) | h5 <;> simp [h5]
  · rintro ⟨h3, h4, h2, h5⟩
    refine ⟨⟨⟨h2, h3⟩, h4⟩, ?_⟩
    rcases h5 with h5 | h5 | h5 <;> simp [h5]
end Go.Proofs.YtoelbgjpmpoolaaGreat
namespace Go.Proofs.YtoelbgjpmpoolaaGreat
open Go Dv
def leL (a b : List Bool) : Prop := ∀ i, a.getD i false = true → b.getD i false = true
theorem leL.refl (a : List Bool) : leL a a := fun _ h => h
theorem leL.trans {a b c : List Bool} (h : leL a b) (k : leL b c) : leL a c := fun i e => k i (h i e)
section
variable (len : Nat) (D : Nat → List Bool → Bool)
def nxt (a : List Bool) : List Bool := (List.range len).map fun n => a.getD n false || D n a
variable {len D}
end
end Go.Proofs.YtoelbgjpmpoolaaGreat
namespace Go.Proofs.YtoelbgjpmpoolaaGreat
open Go Dv
set_option maxRecDepth 10000
set_option linter.unusedSimpArgs false
def hasB (l : List Int) (n : Int) : Bool := l.any fun y => decide (n = y)
theorem all_at {α : Type} (d : α) {p : α → Bool} {l : List α} (h : l.all p = true) {i : Nat} (hi : i < l.length) : p (l.getD i d) = true := by
  rw [List.all_eq_true] at h; rw [Zca d hi]; exact h _ (List.getElem_mem hi)
theorem func_blocks {m : Zak} {f : Func} (h : funcB m f = true) {i : Nat} (hi : i < f.blocks.length) : blkB m f (f.blocks.getD i default) = true := by
  unfold funcB at h; rw [Bool.and_eq_true] at h
  exact all_at default h.2 hi
end Go.Proofs.YtoelbgjpmpoolaaGreat
namespace Go.Proofs.YtoelbgjpmpoolaaGreat
open Go Dv
set_option maxRecDepth 10000
set_option linter.unusedSimpArgs false
theorem Zey {m : Zak} (h : Zbg m = true) {n : Nat} (hn : n < m.funcs.length) : funcB m (m.funcs.getD n default) = true := by
  unfold Zbg at h; rw [Bool.and_eq_true] at h
  exact List.all_eq_true.1 h.2 _ (Zck default hn)
theorem okF_fun {m : Zak} {f : Zaw} (hr : Zbg m = true) (h : OkF m f) : funcB m (Zcl m f) = true := Zey hr (by have := h.f0; have := h.f1; omega)
theorem okF_blk {m : Zak} {f : Zaw} (hr : Zbg m = true) (h : OkF m f) {q : Int} (q0 : 0 ≤ q) (q1 : q < (Zcl m f).blocks.length) : blkB m (Zcl m f) ((Zcl m f).blocks.getD q.toNat default) = true := func_blocks (okF_fun hr h) (by omega)
theorem Zfq {m : Zak} {f : Zaw} (hr : Zbg m = true) (h : OkF m f) : (Zau m f).ins.length ≤ 64 ∧ EndP m (Zcl m f) (Zau m f).fin := by
  have := okF_blk hr h h.b0 h.b1
  unfold blkB at this
  rw [Bool.and_eq_true, decide_eq_true_eq] at this
  exact ⟨this.1.1, this.1.2.2⟩
theorem okF_pad {m : Zak} {f : Zaw} (hr : Zbg m = true) (h : OkF m f) (hk : (Zau m f).fin.kind = 4) :
    (0 ≤ (Zau m f).fin.pad ∧ (Zau m f).fin.pad < (Zcl m f).blocks.length) ∧ ((Zcl m f).blocks.getD (Zau m f).fin.pad.toNat default).landing = true ∧
    0 ≤ ((Zcl m f).blocks.getD (Zau m f).fin.pad.toNat default).pad.dst ∧ ((Zcl m f).blocks.getD (Zau m f).fin.pad.toNat default).pad.dst < f.regs.length := by
  have he := (Zfq hr h).2
  have h4 : inn (Zau m f).fin.pad (Zcl m f).blocks.length = true ∧ ((Zcl m f).blocks.getD (Zau m f).fin.pad.toNat default).landing = true := by
    rcases he with h | h | h | h | h
    · omega
    · omega
    · omega
    · exact ⟨h.2.2.2.2.2.2.1, h.2.2.2.2.2.2.2⟩
    · omega
  obtain ⟨h5, h6⟩ := h4
  rw [Zad] at h5
  have hp := okF_blk hr h h5.1 h5.2
  unfold blkB at hp
  rw [Bool.and_eq_true, decide_eq_true_eq] at hp
  have hP := hp.1.2.1
  refine ⟨h5, h6, ?_⟩
  unfold PadP at hP
  rcases hP with h7 | h7
  · rw [h6] at h7; exact absurd h7.1 (by simp)
  · have := h7.2.2.2.1
    rw [Zad] at this
    rw [h.regs]; exact this
def Zfx (p : Nat → Bool) : Nat → Nat
  | 0 => 0
  | n + 1 => if p (n + 1) = true then n + 1 else Zfx p n
theorem downK_spec {p : Nat → Bool} : ∀ {n : Nat}, (∃ i, i ≤ n ∧ p i = true) → p (Zfx p n) = true ∧ Zfx p n ≤ n
  | 0, ⟨i, hi, h⟩ => by have : i = 0 := by omega
                        subst this; exact ⟨h, Nat.le_refl _⟩
  | n + 1, ⟨i, hi, h⟩ => by
      unfold Zfx
      split
      · rename_i h2; exact ⟨h2, Nat.le_refl _⟩
      · rename_i h2
        have := downK_spec (p := p) (n := n) ⟨i, by
          rcases Nat.lt_or_ge n i with h3 | h3
          · have : i = n + 1 := by omega
            subst this; exact absurd h h2
          · exact h3, h⟩
        exact ⟨this.1, by omega⟩
theorem downK_no {p : Nat → Bool} {n : Nat} (h : ∃ i, i ≤ n ∧ p i = true) (hn : ¬ p n = true) : 0 < n ∧ Zfx p n = Zfx p (n - 1) := by
  cases n with
  | zero => obtain ⟨i, hi, h⟩ := h; have : i = 0 := by omega
            subst this; exact absurd h hn
  | succ n => refine ⟨by omega, ?_⟩; show (if p (n + 1) = true then n + 1 else Zfx p n) = _; rw [if_neg hn]; rfl
theorem downK_yes {p : Nat → Bool} {n : Nat} (hn : p n = true) : Zfx p n = n := by
  cases n with
  | zero => rfl
  | succ n => show (if p (n + 1) = true then n + 1 else _) = _; rw [if_pos hn]
def Zbx (m : Zak) (l : List Zaw) (w : Int) (c : Bool) (i : Nat) : Bool := Ze0 m (l.getD i default) w c
def Zeo (s : Mach) (k : Nat) : Mach := { s with stack := s.stack.take k }
def Zbz (m : Zak) (s : Mach) (w : Int) : Mach :=
  let l := (popM s).stack
  if (List.range l.length).any (Zbx m l w false) = true then
    let k := Zfx (Zbx m l w true) (l.length - 1)
    Zbu (Zeo (popM s) (k + 1)) (landF m (l.getD k default) (Zau m (l.getD k default)).fin.pad w)
  else endM (popM s) 2 w
theorem catch_more {m : Zak} {f : Zaw} {w : Int} (h : Ze0 m f w false = true) : Ze0 m f w true = true := by
  unfold Ze0 at h ⊢
  simp only [Bool.false_and, Bool.or_false, Bool.and_eq_true, Bool.true_and, Bool.or_eq_true] at h ⊢
  exact ⟨h.1, h.2.1, .inl h.2.2⟩
end Go.Proofs.YtoelbgjpmpoolaaGreat
namespace Go.Proofs.YtoelbgjpmpoolaaGreat
open Go Dv
set_option maxRecDepth 10000
set_option linter.unusedSimpArgs false
def goOn (f : Zaw) : Zaw := { f with at_ := f.at_ + 1 }
def cellN (f : Zaw) (x : Ins) : Nat := (f.regs.getD x.a.toNat 0).toNat
def insM (m : Zak) (s : Mach) (f : Zaw) (x : Ins) : Mach :=
  if x.op = 11 then Zcq m s x.f x.args
  else if x.op ≤ 8 then (if (Zdc f x).2 = true then Zbu s (Zdc f x).1 else endM s 3 0)
  else if x.op = 9 then (if 16 ≤ f.regs.getD x.a.toNat 0 then endM s 4 0 else Zbu s (goOn (frW f x.dst (s.cells.getD (cellN f x) 0))))
  else if x.op = 10 then (if 16 ≤ f.regs.getD x.a.toNat 0 then endM s 4 0 else Zbu { s with cells := s.cells.set (cellN f x) (f.regs.getD x.b.toNat 0) } (goOn f))
  else if x.op = 12 then Zbu { s with events := s.events ++ [f.regs.getD x.a.toNat 0] } (goOn f)
  else if x.op = 13 then (if s.inputs.length = 0 then endM s 6 0 else Zbu { s with inputs := s.inputs.drop 1, events := s.events ++ [s.inputs.getD 0 0 + 65536] } (goOn (frW f x.dst (s.inputs.getD 0 0))))
  else Zbu s (goOn f)
def evM (s : Mach) (e : Int) : Mach := { s with events := s.events ++ [e] }
theorem appI {k z : Nat} {l : List Int} {v v' : Int} {F : Nat → List AV} (hk : k = l.length) (hz : z < l.length + 1) (hv : v' = v) (hF : ∀ i, i < l.length → F i = [iv (l.getD i 0)]) : appR k F (fun i => Zfm 1 [iv v'] (0 + i)) z = [iv ((l ++ [v]).getD z 0)] := by
  subst hk; subst hv
  unfold appR
  by_cases e : z < l.length
  · rw [show Nat.blt z l.length = true from by rw [Nat.blt_eq]; exact e, cond_true, hF z e]
    simp [List.getD_eq_getElem?_getD, List.getElem?_append_left e]
  · have e2 : z = l.length := by omega
    subst e2
    rw [show Nat.blt l.length l.length = false from by rw [Bool.eq_false_iff]; intro h; rw [Nat.blt_eq] at h; omega, cond_false, Nat.sub_self]
    have e4 : (l ++ [v']).getD l.length 0 = v' := by simp [List.getD_eq_getElem?_getD]
    rw [e4]; rfl
end Go.Proofs.YtoelbgjpmpoolaaGreat
namespace Go.Proofs.YtoelbgjpmpoolaaGreat
open Go Dv
set_option maxRecDepth 10000
set_option linter.unusedSimpArgs false
def inM (s : Mach) : Mach := { evM s (s.inputs.getD 0 0 + 65536) with inputs := s.inputs.drop 1 }
theorem wk_drop {l : List Int} {n : Nat} {F : Nat → List AV} (hl : ¬ l.length = 0) (hn : n = l.length - 1) (hF : ∀ i, F i = [.int .u16 (l.getD (1 + i) 0)]) : Wk (.sl 1 n F) (u16s (l.drop 1)) := by
  subst hn
  refine .sl (by simp) (fun i hi => ?_)
  rw [hF i, List.getD_eq_getElem?_getD, List.getD_eq_getElem?_getD, List.getElem?_drop]
end Go.Proofs.YtoelbgjpmpoolaaGreat
namespace Go.Proofs.YtoelbgjpmpoolaaGreat
open Go Dv
set_option maxRecDepth 10000
set_option linter.unusedSimpArgs false
end Go.Proofs.YtoelbgjpmpoolaaGreat
namespace Go.Proofs.YtoelbgjpmpoolaaGreat
open Go Dv
set_option maxRecDepth 10000
set_option linter.unusedSimpArgs false
def stM (s : Mach) (k : Nat) (v : Int) : Mach := { s with cells := s.cells.set k v }
theorem wkc {l : List Int} {v : Int} {k j : Nat} (h : k ≠ j) : Wk (cw l j) (cw (l.set k v) j) := by
  unfold cw; rw [Zdm, if_neg (fun e => h e.1)]; exact .refl
theorem wks {l : List Int} {v : Int} {k : Nat} (h : k < l.length) : Wk (.int .u16 v) (cw (l.set k v) k) := by
  unfold cw; rw [Zdm, if_pos ⟨rfl, h⟩]; exact .refl
end Go.Proofs.YtoelbgjpmpoolaaGreat
namespace Go.Proofs.YtoelbgjpmpoolaaGreat
open Go Dv
set_option maxRecDepth 10000
set_option linter.unusedSimpArgs false
def newM (m : Zak) (inputs : List Int) : Mach := ⟨[frN m 0 []], List.replicate 16 0, inputs, [], 0, 0⟩
end Go.Proofs.YtoelbgjpmpoolaaGreat
namespace Go.Proofs.YtoelbgjpmpoolaaGreat
open Go Dv
set_option maxRecDepth 10000
set_option linter.unusedSimpArgs false
def regA (f : Zaw) (p : Int) : Int := f.regs.getD p.toNat 0
def goF (b : Zdp) (f : Zaw) : Zaw := { f with block := if b.fin.kind = 3 ∧ regA f b.fin.a = 0 then b.fin.els else b.fin.to, at_ := 0 }
def stepE (m : Zak) (s : Mach) (f : Zaw) (b : Zdp) : Mach :=
  if endB m f = false then insM m s f (b.ins.getD f.at_.toNat default)
  else if b.fin.kind = 1 then Zb4 m s (regA f b.fin.a)
  else if b.fin.kind = 4 then Zcq m s b.fin.f b.fin.args
  else if b.fin.kind = 5 then Zbz m s (regA f b.fin.a)
  else if b.fin.kind = 6 then Zbz m s f.fly
  else Zbu s (goF b f)
def stepM (m : Zak) (s : Mach) : Mach := if s.done = 0 then stepE m s (topF s) (Zau m (topF s)) else s
end Go.Proofs.YtoelbgjpmpoolaaGreat
namespace Go.Proofs.YtoelbgjpmpoolaaGreat
open Go Dv
set_option maxRecDepth 10000
set_option linter.unusedSimpArgs false
def runM (m : Zak) (inputs : List Int) : Nat → Mach
  | 0 => newM m inputs
  | k + 1 => stepM m (runM m inputs k)
theorem run_done {m : Zak} {inputs : List Int} {i : Nat} (h : ¬ (runM m inputs i).done = 0) : ∀ k, runM m inputs (i + k) = runM m inputs i
  | 0 => rfl
  | k + 1 => by
      show stepM m (runM m inputs (i + k)) = _
      rw [run_done h k]
      exact if_neg h
end Go.Proofs.YtoelbgjpmpoolaaGreat
namespace Go.Proofs.YtoelbgjpmpoolaaGreat
open Go Dv
set_option maxRecDepth 10000
set_option linter.unusedSimpArgs false
def Zbi (m : Zak) (f : Zaw) : Ins := (Zau m f).ins.getD f.at_.toNat default
structure CallF (m : Zak) (f : Zaw) : Prop where
  fin : endB m f = true → (Zau m f).fin.kind = 4
  ins : endB m f = false → (Zbi m f).op = 11
structure OkM (m : Zak) (s : Mach) : Prop where
  cells : s.cells.length = 16
  fr : ∀ f ∈ s.stack, OkF m f
  ca : ∀ f ∈ s.stack.take (s.stack.length - 1), CallF m f
  len : s.stack.length ≤ 32
  pos : s.done = 0 → 0 < s.stack.length
  inp : (∀ x ∈ s.inputs, 0 ≤ x ∧ x ≤ 65535) ∧ s.inputs.length < 1000000
theorem okF_ins {m : Zak} {f : Zaw} (hr : Zbg m = true) (h : OkF m f) (he : endB m f = false) : f.at_.toNat < (Zau m f).ins.length ∧ InsP m (Zcl m f) (Zbi m f) := by
  have h1 : ¬ f.at_ = (Zau m f).ins.length := by unfold endB at he; simpa using he
  have h2 := h.a0
  have h3 := h.a1
  have hl : f.at_.toNat < (Zau m f).ins.length := by omega
  refine ⟨hl, ?_⟩
  have := okF_blk hr h h.b0 h.b1
  unfold blkB at this
  rw [Bool.and_eq_true, List.all_eq_true] at this
  have := this.2 _ (Zck (default : Ins) hl)
  simpa [Zbi, Zau] using this
theorem okF_funP {m : Zak} {f : Func} (h : funcB m f = true) : FunP f := by
  unfold funcB at h; rw [Bool.and_eq_true, decide_eq_true_eq] at h; exact h.1
theorem okF_new {m : Zak} {n : Int} {args : List Int} (hr : Zbg m = true) (h0 : 0 ≤ n) (h1 : n < m.funcs.length) : OkF m (frN m n args) := by
  have hP := okF_funP (Zey hr (show n.toNat < m.funcs.length by omega))
  obtain ⟨p0, p1, p2, p3, p4, p5, p6⟩ := hP
  refine ⟨h0, h1, Int.le_refl _, ?_, Int.le_refl _, ?_, ?_⟩
  · show (0 : Int) < ((m.funcs.getD n.toNat default).blocks.length : Int); omega
  · exact Int.natCast_nonneg _
  · show (((List.range (m.funcs.getD n.toNat default).regs.toNat).map (regN args)).length : Int) = (m.funcs.getD n.toNat default).regs
    rw [List.length_map, List.length_range]; omega
theorem okF_W {m : Zak} {f : Zaw} (h : OkF m f) (n w : Int) : OkF m (frW f n w) := ⟨h.f0, h.f1, h.b0, h.b1, h.a0, h.a1, by rw [show (frW f n w).regs.length = f.regs.length by simp [frW]]; exact h.regs⟩
theorem okF_to {m : Zak} {f : Zaw} (h : OkF m f) {b : Int} (b0 : 0 ≤ b) (b1 : b < (Zcl m f).blocks.length) : OkF m { f with block := b, at_ := 0 } :=
  ⟨h.f0, h.f1, b0, b1, Int.le_refl _, Int.natCast_nonneg _, h.regs⟩
theorem okF_next {m : Zak} {f : Zaw} (h : OkF m f) (he : endB m f = false) : OkF m { f with at_ := f.at_ + 1 } := by
  have h1 : ¬ f.at_ = (Zau m f).ins.length := by unfold endB at he; simpa using he
  have h2 := h.a0
  have h3 := h.a1
  exact ⟨h.f0, h.f1, h.b0, h.b1, by show 0 ≤ f.at_ + 1; omega, by show f.at_ + 1 ≤ ((Zau m f).ins.length : Int); omega, h.regs⟩
theorem goal_inM {f : Func} {n : Int} (h : goalB f n = true) : 0 ≤ n ∧ n < f.blocks.length := by
  unfold goalB at h
  cases h2 : inn n f.blocks.length with
  | false => rw [h2] at h; cases h
  | true => exact (Zad _ _).1 h2
theorem Zec {m : Zak} {s : Mach} (h : OkM m s) {f : Zaw} (hf : OkF m f) (hp : 0 < s.stack.length) : OkM m (Zbu s f) := by
  have hl : (Zbu s f).stack.length = s.stack.length := by simp [Zbu]; omega
  have ht : (Zbu s f).stack.take ((Zbu s f).stack.length - 1) = s.stack.take (s.stack.length - 1) := by
    rw [hl]; show (s.stack.take (s.stack.length - 1) ++ [f]).take _ = _
    rw [List.take_append_of_le_length (by simp), List.take_take, Nat.min_self]
  refine ⟨h.cells, fun g hg => ?_, by rw [ht]; exact h.ca, by rw [hl]; exact h.len, fun _ => by rw [hl]; exact hp, h.inp⟩
  rcases List.mem_append.1 hg with hg | hg
  · exact h.fr g (List.mem_of_mem_take hg)
  · rw [List.mem_singleton.1 hg]; exact hf
theorem okM_end {m : Zak} {s : Mach} (h : OkM m s) {how w : Int} (hh : how ≠ 0) : OkM m (endM s how w) := ⟨h.cells, h.fr, h.ca, h.len, fun e => absurd e hh, h.inp⟩
theorem okM_take {m : Zak} {s : Mach} (h : OkM m s) (k : Nat) (hk : k ≤ s.stack.length) (hp : s.done = 0 → 0 < k) : OkM m (Zeo s k) := by
  have hl : (Zeo s k).stack.length = k := by simp [Zeo]; omega
  refine ⟨h.cells, fun g hg => h.fr g (List.mem_of_mem_take hg), fun g hg => h.ca g ?_, by rw [hl]; have := h.len; omega, fun e => by rw [hl]; exact hp e, h.inp⟩
  rw [hl] at hg
  have : (Zeo s k).stack.take (k - 1) = (s.stack.take (s.stack.length - 1)).take (k - 1) := by
    show (s.stack.take k).take (k - 1) = _
    rw [List.take_take, List.take_take, show min (k - 1) k = min (k - 1) (s.stack.length - 1) by omega]
  rw [this] at hg
  exact List.mem_of_mem_take hg
theorem popM_eq (s : Mach) : popM s = Zeo s (s.stack.length - 1) := rfl
theorem top_mem {s : Mach} (h : 0 < s.stack.length) : topF s ∈ s.stack := Zck _ (by omega)
theorem okM_called {m : Zak} {s : Mach} (hr : Zbg m = true) (h : OkM m s) {n : Int} {places : List Int} (h0 : 0 ≤ n) (h1 : n < m.funcs.length) (hp : 0 < s.stack.length) (hc : CallF m (topF s)) : OkM m (Zcq m s n places) := by
  unfold Zcq
  split
  · exact okM_end h (by decide)
  · rename_i h32
    refine ⟨h.cells, fun g hg => ?_, fun g hg => ?_, by simp; omega, fun _ => by simp, h.inp⟩
    · rcases List.mem_append.1 hg with hg | hg
      · exact h.fr g hg
      · rw [List.mem_singleton.1 hg]; exact okF_new hr h0 h1
    · have hg2 : g ∈ s.stack := by
        have e : (s.stack ++ [frN m n (Zc7 (topF s) places)]).take ((s.stack ++ [frN m n (Zc7 (topF s) places)]).length - 1) = s.stack := by
          rw [List.length_append]; simp
        rw [← e]; exact hg
      have e : s.stack = s.stack.take (s.stack.length - 1) ++ [topF s] := by
        have e1 : s.stack.take (s.stack.length - 1 + 1) = s.stack.take (s.stack.length - 1) ++ [s.stack.getD (s.stack.length - 1) default] := by
          rw [List.take_add_one, List.getD_eq_getElem?_getD, List.getElem?_eq_getElem (by omega)]; rfl
        rw [show s.stack.length - 1 + 1 = s.stack.length by omega, List.take_length] at e1
        exact e1
      rw [e] at hg2
      rcases List.mem_append.1 hg2 with hg | hg
      · exact h.ca g hg
      · rw [List.mem_singleton.1 hg]; exact hc
theorem callF_dst {m : Zak} {f : Zaw} (hr : Zbg m = true) (h : OkF m f) (hc : CallF m f) :
    (endB m f = true → (0 ≤ (Zau m f).fin.dst ∧ (Zau m f).fin.dst < f.regs.length) ∧ (0 ≤ (Zau m f).fin.to ∧ (Zau m f).fin.to < (Zcl m f).blocks.length)) ∧
    (endB m f = false → 0 ≤ (Zbi m f).dst ∧ (Zbi m f).dst < f.regs.length) := by
  refine ⟨fun he => ?_, fun he => ?_⟩
  · have hk := hc.fin he
    have hE := (Zfq hr h).2
    rw [h.regs]
    rcases hE with h | h | h | h | h
    · omega
    · omega
    · omega
    · exact ⟨(Zad _ _).1 h.2.2.1, goal_inM h.2.2.2.2.1⟩
    · omega
  · have hk := hc.ins he
    have hI := (okF_ins hr h he).2
    rw [h.regs]
    rcases hI with h | h | h | h | h | h | h
    · omega
    · omega
    · omega
    · omega
    · exact (Zad _ _).1 h.2.1
    · omega
    · omega
theorem top_take {s : Mach} {k : Nat} (h : k + 1 < s.stack.length) : s.stack.getD k default ∈ s.stack.take (s.stack.length - 1) := by
  rw [← Zbw (l := s.stack) (k := s.stack.length - 1) default (by omega)]
  exact Zck _ (by simp; omega)
theorem pop_top {m : Zak} {s : Mach} (h : OkM m s) (h2 : 1 < s.stack.length) : OkF m (topF (popM s)) ∧ CallF m (topF (popM s)) := by
  have e : topF (popM s) = s.stack.getD (s.stack.length - 2) default := by
    unfold topF; rw [Zcz]; show (s.stack.take (s.stack.length - 1)).getD (s.stack.length - 1 - 1) default = _
    rw [Zbw _ (by omega)]; rfl
  rw [e]
  exact ⟨h.fr _ (Zck _ (by omega)), h.ca _ (top_take (by omega))⟩
theorem okM_answered {m : Zak} {s : Mach} (hr : Zbg m = true) (h : OkM m s) {w : Int} (hp : 0 < s.stack.length) : OkM m (Zb4 m s w) := by
  unfold Zb4
  split
  · rename_i h1
    have := h.cells
    exact ⟨h.cells, fun g hg => h.fr g (List.mem_of_mem_take hg), fun g hg => h.ca g (by
      have : g ∈ (s.stack.take (s.stack.length - 1)).take ((s.stack.take (s.stack.length - 1)).length - 1) := hg
      exact List.mem_of_mem_take this), by show (popM s).stack.length ≤ 32; rw [Zcz]; omega, fun e => absurd (show (1 : Int) = 0 from e) (by decide), h.inp⟩
  · rename_i h1
    obtain ⟨hF, hC⟩ := pop_top h (by omega)
    have hd := callF_dst hr hF hC
    refine Zec (popM_eq s ▸ okM_take h _ (by omega) (fun _ => by omega)) ?_ (by rw [Zcz]; omega)
    unfold answF
    split
    · rename_i he
      have := hd.1 he
      exact okF_to (okF_W hF _ _) this.2.1 this.2.2
    · rename_i he
      exact okF_next (okF_W hF _ _) (show endB m (topF (popM s)) = false from by simpa using he)
theorem okM_thrown {m : Zak} {s : Mach} (hr : Zbg m = true) (h : OkM m s) {w : Int} (hp : 0 < s.stack.length) : OkM m (Zbz m s w) := by
  by_cases hany : (List.range (popM s).stack.length).any (Zbx m (popM s).stack w false) = true
  · have hT : Zbz m s w = Zbu (Zeo (popM s) (Zfx (Zbx m (popM s).stack w true) ((popM s).stack.length - 1) + 1)) (landF m ((popM s).stack.getD (Zfx (Zbx m (popM s).stack w true) ((popM s).stack.length - 1)) default) (Zau m ((popM s).stack.getD (Zfx (Zbx m (popM s).stack w true) ((popM s).stack.length - 1)) default)).fin.pad w) := by
      unfold Zbz; rw [if_pos hany]
    rw [List.any_eq_true] at hany
    obtain ⟨i, hi, hic⟩ := hany
    rw [List.mem_range] at hi
    obtain ⟨hK1, hK2⟩ := downK_spec (p := Zbx m (popM s).stack w true) (n := (popM s).stack.length - 1) ⟨i, by omega, catch_more hic⟩
    rw [hT]
    have hgen : ∃ K, Zfx (Zbx m (popM s).stack w true) ((popM s).stack.length - 1) = K := ⟨_, rfl⟩
    obtain ⟨K, hK⟩ := hgen
    rw [hK] at hK1 hK2 ⊢
    have hpl := Zcz (s := s)
    have hF : OkF m ((popM s).stack.getD K default) := by
      rw [show (popM s).stack.getD K default = s.stack.getD K default from Zbw _ (by omega)]
      exact h.fr _ (Zck _ (by omega))
    have hk4 : (Zau m ((popM s).stack.getD K default)).fin.kind = 4 := by
      unfold Zbx Ze0 at hK1
      simp only [Bool.and_eq_true, decide_eq_true_eq] at hK1
      exact hK1.2.1
    obtain ⟨⟨g1, g2⟩, g3, g4, g5⟩ := okF_pad hr hF hk4
    refine Zec (s := Zeo (popM s) (K + 1)) ?_ ?_ (by simp [Zeo]; omega)
    · have e : Zeo (popM s) (K + 1) = Zeo s (K + 1) := by
        show ({ s with stack := (s.stack.take (s.stack.length - 1)).take (K + 1) } : Mach) = { s with stack := s.stack.take (K + 1) }
        rw [List.take_take, show min (K + 1) (s.stack.length - 1) = K + 1 by omega]
      rw [e]
      exact okM_take h _ (by omega) (fun _ => by omega)
    · exact okF_W (okF_to (f := { (popM s).stack.getD K default with fly := w }) ⟨hF.f0, hF.f1, hF.b0, hF.b1, hF.a0, hF.a1, hF.regs⟩ g1 g2) _ _
  · have hT : Zbz m s w = endM (popM s) 2 w := by
      unfold Zbz; rw [if_neg hany]
    rw [hT]
    exact ⟨h.cells, fun g hg => h.fr g (List.mem_of_mem_take hg), fun g hg => h.ca g (by
      have : g ∈ (s.stack.take (s.stack.length - 1)).take ((s.stack.take (s.stack.length - 1)).length - 1) := hg
      exact List.mem_of_mem_take this), by show (popM s).stack.length ≤ 32; rw [Zcz]; have := h.len; omega, fun e => absurd (show (2 : Int) = 0 from e) (by decide), h.inp⟩
theorem argsB_n {m : Zak} {f : Func} {n : Int} {l : List Int} (h : argsB m f n l = true) : (0 ≤ n ∧ n < m.funcs.length) ∧ (l.length : Int) = (m.funcs.getD n.toNat default).params ∧ ∀ p ∈ l, 0 ≤ p ∧ p < f.regs := by
  unfold argsB at h
  cases h2 : inn n m.funcs.length with
  | false => simp [h2] at h
  | true =>
    refine ⟨(Zad _ _).1 h2, ?_⟩
    simp [h2] at h
    refine ⟨by simpa using h.1, fun p hp => (Zad _ _).1 ?_⟩
    have := h.2 p hp
    simpa using this
end Go.Proofs.YtoelbgjpmpoolaaGreat
namespace Go.Proofs.YtoelbgjpmpoolaaGreat
open Go Dv
set_option maxRecDepth 10000
set_option linter.unusedSimpArgs false
theorem okM_ev {m : Zak} {s t : Mach} (h : OkM m s) (h1 : t.stack = s.stack) (h2 : t.cells.length = 16) (h3 : t.done = s.done) (h4 : (∀ x ∈ t.inputs, x ∈ s.inputs) ∧ t.inputs.length ≤ s.inputs.length) : OkM m t :=
  ⟨h2, by rw [h1]; exact h.fr, by rw [h1]; exact h.ca, by rw [h1]; exact h.len, by rw [h1, h3]; exact h.pos, fun x hx => h.inp.1 x (h4.1 x hx), Nat.lt_of_le_of_lt h4.2 h.inp.2⟩
theorem okM_ins {m : Zak} {s : Mach} (hr : Zbg m = true) (h : OkM m s) (hp : 0 < s.stack.length) (he : endB m (topF s) = false) : OkM m (insM m s (topF s) (Zbi m (topF s))) := by
  have hF := h.fr _ (top_mem hp)
  have hN := okF_next hF he
  have hI := (okF_ins hr hF he).2
  unfold insM
  split
  · rename_i h11
    have hA : argsB m (Zcl m (topF s)) (Zbi m (topF s)).f (Zbi m (topF s)).args = true := by
      rcases hI with h | h | h | h | h | h | h
      · omega
      · omega
      · omega
      · omega
      · exact h.2.2.2.2.2
      · omega
      · omega
    have := argsB_n hA
    exact okM_called hr h this.1.1 this.1.2 hp ⟨fun e => by (rw [he] at e; cases e), fun _ => h11⟩
  split
  · split
    · rename_i hok
      refine Zec h ?_ hp
      unfold Zdc
      rw [if_pos (by unfold Zdc at hok; split at hok; assumption; cases hok)]
      exact okF_next (okF_W hF _ _) he
    · exact okM_end h (by decide)
  split
  · split
    · exact okM_end h (by decide)
    · exact Zec h (okF_next (okF_W hF _ _) he) hp
  split
  · split
    · exact okM_end h (by decide)
    · exact Zec (okM_ev (t := { s with cells := s.cells.set (cellN (topF s) (Zbi m (topF s))) ((topF s).regs.getD (Zbi m (topF s)).b.toNat 0) }) h rfl (by simp; exact h.cells) rfl ⟨fun x hx => hx, Nat.le_refl _⟩) hN hp
  split
  · exact Zec (okM_ev (t := { s with events := s.events ++ [(topF s).regs.getD (Zbi m (topF s)).a.toNat 0] }) h rfl h.cells rfl ⟨fun x hx => hx, Nat.le_refl _⟩) hN hp
  split
  · split
    · exact okM_end h (by decide)
    · exact Zec (okM_ev (t := { s with inputs := s.inputs.drop 1, events := s.events ++ [s.inputs.getD 0 0 + 65536] }) h rfl h.cells rfl ⟨fun x hx => List.mem_of_mem_drop hx, by simp⟩) (okF_next (okF_W hF _ _) he) hp
  · exact Zec h hN hp
theorem okF_goF {m : Zak} {f : Zaw} (hr : Zbg m = true) (h : OkF m f) (h1 : (Zau m f).fin.kind ≠ 1) (h4 : (Zau m f).fin.kind ≠ 4) (h5 : (Zau m f).fin.kind ≠ 5) (h6 : (Zau m f).fin.kind ≠ 6) : OkF m (goF (Zau m f) f) := by
  have hE := (Zfq hr h).2
  have hg : (goalB (Zcl m f) (Zau m f).fin.to = true) ∧ ((Zau m f).fin.kind = 3 → goalB (Zcl m f) (Zau m f).fin.els = true) := by
    rcases hE with h | h | h | h | h
    · omega
    · exact ⟨h.2.2.2.2.2.2.1, fun e => by omega⟩
    · exact ⟨h.2.2.2.2.2.2.1, fun _ => h.2.2.2.2.2.2.2⟩
    · omega
    · omega
  unfold goF
  split
  · rename_i h3; have := goal_inM (hg.2 h3.1); exact okF_to h this.1 this.2
  · have := goal_inM hg.1; exact okF_to h this.1 this.2
theorem okM_step {m : Zak} {s : Mach} (hr : Zbg m = true) (h : OkM m s) : OkM m (stepM m s) := by
  unfold stepM
  split
  · rename_i hd
    have hp := h.pos hd
    have hF := h.fr _ (top_mem hp)
    unfold stepE
    split
    · rename_i he; exact okM_ins hr h hp he
    rename_i he
    split
    · exact okM_answered hr h hp
    split
    · rename_i h1 h4
      have hE := (Zfq hr hF).2
      have hA : argsB m (Zcl m (topF s)) (Zau m (topF s)).fin.f (Zau m (topF s)).fin.args = true := by
        rcases hE with h | h | h | h | h
        · omega
        · omega
        · omega
        · exact h.2.2.2.1
        · omega
      have := argsB_n hA
      exact okM_called hr h this.1.1 this.1.2 hp ⟨fun _ => h4, fun e => absurd e he⟩
    split
    · exact okM_thrown hr h hp
    split
    · exact okM_thrown hr h hp
    · rename_i h1 h4 h5 h6
      exact Zec h (okF_goF hr hF h1 h4 h5 h6) hp
  · exact h
theorem right0 {m : Zak} (hr : Zbg m = true) : 0 < m.funcs.length ∧ (m.funcs.getD 0 default).params = 0 := by
  unfold Zbg at hr; rw [Bool.and_eq_true, decide_eq_true_eq] at hr; exact ⟨hr.1.1, hr.1.2.2⟩
theorem okM_new {m : Zak} {inputs : List Int} (hr : Zbg m = true) (hi : (∀ x ∈ inputs, 0 ≤ x ∧ x ≤ 65535) ∧ inputs.length < 1000000) : OkM m (newM m inputs) := by
  refine ⟨rfl, fun f hf => ?_, fun f hf => ?_, by show 1 ≤ 32; omega, fun _ => by show 0 < 1; omega, hi⟩
  · rw [List.mem_singleton.1 hf]; exact okF_new hr (by omega) (by have := (right0 hr).1; omega)
  · cases hf
theorem okM_run {m : Zak} {inputs : List Int} (hr : Zbg m = true) (hi : (∀ x ∈ inputs, 0 ≤ x ∧ x ≤ 65535) ∧ inputs.length < 1000000) : ∀ k, OkM m (runM m inputs k)
  | 0 => okM_new hr hi
  | k + 1 => okM_step hr (okM_run hr hi k)
theorem ev_called {m : Zak} {s : Mach} {n : Int} {l : List Int} : (Zcq m s n l).events = s.events := by unfold Zcq; split <;> rfl
theorem ev_answered {m : Zak} {s : Mach} {w : Int} : (Zb4 m s w).events = s.events := by unfold Zb4; split <;> rfl
theorem ev_thrown {m : Zak} {s : Mach} {w : Int} : (Zbz m s w).events = s.events := by unfold Zbz; dsimp only; split <;> rfl
theorem ev_ins {m : Zak} {s : Mach} {f : Zaw} {x : Ins} : (insM m s f x).events = s.events ∨ ∃ e, (insM m s f x).events = s.events ++ [e] := by
  unfold insM
  split
  · exact .inl ev_called
  split
  · split <;> exact .inl rfl
  split
  · split <;> exact .inl rfl
  split
  · split <;> exact .inl rfl
  split
  · exact .inr ⟨_, rfl⟩
  split
  · split
    · exact .inl rfl
    · exact .inr ⟨_, rfl⟩
  · exact .inl rfl
theorem ev_step {m : Zak} {s : Mach} : (stepM m s).events = s.events ∨ ∃ e, (stepM m s).events = s.events ++ [e] := by
  unfold stepM
  split
  · unfold stepE
    split
    · exact ev_ins
    split
    · exact .inl ev_answered
    split
    · exact .inl ev_called
    split
    · exact .inl ev_thrown
    split
    · exact .inl ev_thrown
    · exact .inl rfl
  · exact .inl rfl
theorem ev_run {m : Zak} {inputs : List Int} : ∀ k, (runM m inputs k).events.length ≤ k
  | 0 => Nat.le_refl _
  | k + 1 => by
      have h1 := ev_run (m := m) (inputs := inputs) k
      show (stepM m (runM m inputs k)).events.length ≤ k + 1
      rcases ev_step (m := m) (s := runM m inputs k) with h | ⟨e, h⟩
      · rw [h]; omega
      · rw [h, List.length_append]; simp; exact h1
end Go.Proofs.YtoelbgjpmpoolaaGreat
namespace Go.Proofs.YtoelbgjpmpoolaaGreat
open Go Dv
set_option maxRecDepth 10000
set_option linter.unusedSimpArgs false
def smallB (m : Zak) (inputs : List Int) : Bool := shortB m && decide (inputs.length ≤ 30)
theorem c_r6Small (m : Zak) (inputs : List Int) : FC Tryz.prog 13 [.agg (Zbj m), u16s inputs] (.bool (smallB m inputs)) := by
  refine Zav tok Tryz.func13 rfl (by decide +kernel) (Nat.le_of_ble_eq_true rfl) ?_
  (repeat' first | refine Zac ?_ | (refine Zab tok (by rfl) ?_; conv => whnf))
  refine .inl ⟨_, _, _, uG (QC.fc (c_Short m) rfl), ?_⟩
  conv => whnf
  (repeat' (refine Zaj ?_; conv => whnf))
  refine ⟨_, rfl, Rel.bool ?_⟩
  unfold smallB
  cases shortB m
  · rfl
  · simp only [cond_true, Bool.true_and]
    by_cases e : inputs.length ≤ 30
    · rw [decide_eq_true e, decide_eq_true (by omega)]
    · rw [decide_eq_false e, decide_eq_false (by omega)]
end Go.Proofs.YtoelbgjpmpoolaaGreat
namespace Go.Proofs.YtoelbgjpmpoolaaGreat
open Go Dv
set_option maxRecDepth 10000
set_option linter.unusedSimpArgs false
structure RelL (P : Zaw → Zaw → Prop) (a b : List Zaw) : Prop where
  len : a.length = b.length
  at_ : ∀ i, i < a.length → P (a.getD i default) (b.getD i default)
theorem RelL.take {P : Zaw → Zaw → Prop} {a b : List Zaw} (h : RelL P a b) (k : Nat) : RelL P (a.take k) (b.take k) := by
  refine ⟨by rw [List.length_take, List.length_take, h.len], fun i hi => ?_⟩
  rw [List.length_take] at hi
  rw [Zbw _ (by omega), Zbw _ (by omega)]
  exact h.at_ i (by omega)
theorem Zfv {l : List Zaw} {x : Zaw} {i : Nat} : (l ++ [x]).getD i default = if i < l.length then l.getD i default else if i = l.length then x else default := by
  by_cases h1 : i < l.length
  · rw [if_pos h1]; simp [List.getD_eq_getElem?_getD, List.getElem?_append_left h1]
  · rw [if_neg h1]
    by_cases h2 : i = l.length
    · rw [if_pos h2]; subst h2; simp [List.getD_eq_getElem?_getD]
    · rw [if_neg h2, List.getD_eq_getElem?_getD, List.getElem?_eq_none (by simp; omega)]; rfl
theorem RelL.app {P : Zaw → Zaw → Prop} {a b : List Zaw} (h : RelL P a b) {f g : Zaw} (hp : P f g) : RelL P (a ++ [f]) (b ++ [g]) := by
  refine ⟨by simp [h.len], fun i hi => ?_⟩
  rw [List.length_append, List.length_singleton] at hi
  rw [Zfv, Zfv, ← h.len]
  by_cases h1 : i < a.length
  · rw [if_pos h1, if_pos h1]; exact h.at_ i h1
  · rw [if_neg h1, if_neg h1, if_pos (by omega), if_pos (by omega)]; exact hp
end Go.Proofs.YtoelbgjpmpoolaaGreat
namespace Go.Proofs.YtoelbgjpmpoolaaGreat
open Go Dv
set_option maxRecDepth 10000
set_option linter.unusedSimpArgs false
theorem top_pop {s : Mach} (h2 : 1 < s.stack.length) : topF (popM s) = s.stack.getD (s.stack.length - 2) default := by
  unfold topF; rw [Zcz]; show (s.stack.take (s.stack.length - 1)).getD (s.stack.length - 1 - 1) default = _
  rw [Zbw _ (by omega)]; rfl
end Go.Proofs.YtoelbgjpmpoolaaGreat
namespace Go.Proofs.YtoelbgjpmpoolaaGreat
open Go Dv
set_option maxRecDepth 10000
set_option linter.unusedSimpArgs false
set_option linter.unusedVariables false
structure FrInv (m : Zak) (Q : Zaw → Prop) : Prop where
  new : ∀ (n : Int) (args : List Int), 0 ≤ n → n < m.funcs.length → Q (frN m n args)
  reck : ∀ f, OkF m f → endB m f = false → Q f → (Zbi m f).op ≤ 8 → (reckV f (Zbi m f)).2 = true → Q { frW f (Zbi m f).dst (reckV f (Zbi m f)).1 with at_ := f.at_ + 1 }
  put : ∀ f w, OkF m f → endB m f = false → Q f → ((Zbi m f).op = 9 ∨ (Zbi m f).op = 11 ∨ (Zbi m f).op = 13) → Q { frW f (Zbi m f).dst w with at_ := f.at_ + 1 }
  on : ∀ f, OkF m f → endB m f = false → Q f → ((Zbi m f).op = 10 ∨ (Zbi m f).op = 12) → Q (goOn f)
  go : ∀ f, OkF m f → endB m f = true → Q f → ((Zau m f).fin.kind = 2 ∨ (Zau m f).fin.kind = 3) → Q (goF (Zau m f) f)
  to : ∀ f w, OkF m f → endB m f = true → Q f → (Zau m f).fin.kind = 4 → Q { frW f (Zau m f).fin.dst w with block := (Zau m f).fin.to, at_ := 0 }
  land : ∀ f w, OkF m f → endB m f = true → Q f → (Zau m f).fin.kind = 4 → Q (landF m f (Zau m f).fin.pad w)
section
variable {m : Zak} {Q : Zaw → Prop}
theorem Ze1 {s : Mach} (h : ∀ f ∈ s.stack, Q f) {f : Zaw} (hf : Q f) : ∀ g ∈ (Zbu s f).stack, Q g := fun g hg => by
  rcases List.mem_append.1 hg with hg | hg
  · exact h g (List.mem_of_mem_take hg)
  · rw [List.mem_singleton.1 hg]; exact hf
theorem all_take {s : Mach} (h : ∀ f ∈ s.stack, Q f) (k : Nat) : ∀ g ∈ (Zeo s k).stack, Q g := fun g hg => h g (List.mem_of_mem_take hg)
theorem all_called (hQ : FrInv m Q) {s : Mach} (h : ∀ f ∈ s.stack, Q f) {n : Int} {l : List Int} (h0 : 0 ≤ n) (h1 : n < m.funcs.length) : ∀ g ∈ (Zcq m s n l).stack, Q g := by
  unfold Zcq
  split
  · exact h
  · intro g hg
    rcases List.mem_append.1 hg with hg | hg
    · exact h g hg
    · rw [List.mem_singleton.1 hg]; exact hQ.new _ _ h0 h1
theorem all_answered (hr : Zbg m = true) (hQ : FrInv m Q) {s : Mach} (hs : OkM m s) (h : ∀ f ∈ s.stack, Q f) {w : Int} (hp : 0 < s.stack.length) : ∀ g ∈ (Zb4 m s w).stack, Q g := by
  unfold Zb4
  split
  · exact all_take h _
  · rename_i h1
    obtain ⟨hF, hC⟩ := pop_top hs (by omega)
    have hq : Q (topF (popM s)) := by
      refine h _ ?_
      rw [top_pop (by omega)]
      exact Zck _ (by omega)
    refine Ze1 (all_take h _) ?_
    unfold answF
    split
    · rename_i he; exact hQ.to _ w hF he hq (hC.fin he)
    · rename_i he
      have he : endB m (topF (popM s)) = false := by simpa using he
      exact hQ.put _ w hF he hq (.inr (.inl (hC.ins he)))
theorem all_thrown (hr : Zbg m = true) (hQ : FrInv m Q) {s : Mach} (hs : OkM m s) (h : ∀ f ∈ s.stack, Q f) {w : Int} (hp : 0 < s.stack.length) : ∀ g ∈ (Zbz m s w).stack, Q g := by
  unfold Zbz
  dsimp only
  split
  · rename_i hany
    rw [List.any_eq_true] at hany
    obtain ⟨i, hi, hic⟩ := hany
    rw [List.mem_range] at hi
    obtain ⟨hK1, hK2⟩ := downK_spec (p := Zbx m (popM s).stack w true) (n := (popM s).stack.length - 1) ⟨i, by omega, catch_more hic⟩
    generalize Zfx (Zbx m (popM s).stack w true) ((popM s).stack.length - 1) = K at hK1 hK2
    have hpl := Zcz (s := s)
    have e : (popM s).stack.getD K default = s.stack.getD K default := Zbw _ (by omega)
    unfold Zbx at hK1
    rw [e] at hK1 ⊢
    have hm : s.stack.getD K default ∈ s.stack := Zck _ (by omega)
    have hc : endB m (s.stack.getD K default) = true ∧ (Zau m (s.stack.getD K default)).fin.kind = 4 := by
      unfold Ze0 at hK1
      simp only [Bool.and_eq_true, decide_eq_true_eq] at hK1
      exact ⟨hK1.1, hK1.2.1⟩
    exact Ze1 (all_take (s := popM s) (all_take h _) _) (hQ.land _ w (hs.fr _ hm) hc.1 (h _ hm) hc.2)
  · exact all_take h _
theorem all_ins (hr : Zbg m = true) (hQ : FrInv m Q) {s : Mach} (hs : OkM m s) (h : ∀ f ∈ s.stack, Q f) (hp : 0 < s.stack.length) (he : endB m (topF s) = false) : ∀ g ∈ (insM m s (topF s) (Zbi m (topF s))).stack, Q g := by
  have hF := hs.fr _ (top_mem hp)
  have hq := h _ (top_mem hp)
  have hI := (okF_ins hr hF he).2
  unfold insM
  split
  · rename_i h11
    have hA : argsB m (Zcl m (topF s)) (Zbi m (topF s)).f (Zbi m (topF s)).args = true := by
      rcases hI with h | h | h | h | h | h | h
      · omega
      · omega
      · omega
      · omega
      · exact h.2.2.2.2.2
      · omega
      · omega
    have := argsB_n hA
    exact all_called hQ h this.1.1 this.1.2
  split
  · rename_i h8
    split
    · rename_i hok
      refine Ze1 h ?_
      have hv : (reckV (topF s) (Zbi m (topF s))).2 = true := by unfold Zdc at hok; split at hok; assumption; cases hok
      unfold Zdc
      rw [if_pos hv]
      exact hQ.reck _ hF he hq h8 hv
    · exact h
  split
  · rename_i h9
    split
    · exact h
    · exact Ze1 h (hQ.put _ _ hF he hq (.inl h9))
  split
  · rename_i h10
    split
    · exact h
    · exact Ze1 (s := { s with cells := _ }) h (hQ.on _ hF he hq (.inl h10))
  split
  · rename_i h12
    exact Ze1 (s := { s with events := _ }) h (hQ.on _ hF he hq (.inr h12))
  split
  · rename_i h13
    split
    · exact h
    · exact Ze1 (s := { s with inputs := _, events := _ }) h (hQ.put _ _ hF he hq (.inr (.inr h13)))
  · exfalso
    rcases hI with h | h | h | h | h | h | h <;> omega
theorem all_step (hr : Zbg m = true) (hQ : FrInv m Q) {s : Mach} (hs : OkM m s) (h : ∀ f ∈ s.stack, Q f) : ∀ g ∈ (stepM m s).stack, Q g := by
  unfold stepM
  split
  · rename_i hd
    have hp := hs.pos hd
    have hF := hs.fr _ (top_mem hp)
    have hq := h _ (top_mem hp)
    have hE := (Zfq hr hF).2
    unfold stepE
    split
    · rename_i he; exact all_ins hr hQ hs h hp he
    rename_i he
    have he : endB m (topF s) = true := by simpa using he
    split
    · exact all_answered hr hQ hs h hp
    split
    · rename_i h1 h4
      have hA : argsB m (Zcl m (topF s)) (Zau m (topF s)).fin.f (Zau m (topF s)).fin.args = true := by
        rcases hE with h | h | h | h | h
        · omega
        · omega
        · omega
        · exact h.2.2.2.1
        · omega
      have := argsB_n hA
      exact all_called hQ h this.1.1 this.1.2
    split
    · exact all_thrown hr hQ hs h hp
    split
    · exact all_thrown hr hQ hs h hp
    · rename_i h1 h4 h5 h6
      exact Ze1 h (hQ.go _ hF he hq (by rcases hE with h | h | h | h | h <;> omega))
  · exact h
theorem all_run (hr : Zbg m = true) (hQ : FrInv m Q) {inputs : List Int} (hi : (∀ x ∈ inputs, 0 ≤ x ∧ x ≤ 65535) ∧ inputs.length < 1000000) : ∀ k, ∀ g ∈ (runM m inputs k).stack, Q g
  | 0 => fun g hg => by
      rw [List.mem_singleton.1 (show g ∈ [frN m 0 []] from hg)]
      exact hQ.new _ _ (by omega) (by have := (right0 hr).1; omega)
  | k + 1 => all_step hr hQ (okM_run hr hi k) (all_run hr hQ hi k)
end
end Go.Proofs.YtoelbgjpmpoolaaGreat
namespace Go.Proofs.YtoelbgjpmpoolaaGreat
open Go Dv
set_option maxRecDepth 10000
set_option linter.unusedSimpArgs false
set_option linter.unusedVariables false
abbrev ReachF (m : Zak) (f : Zaw) : Prop := Fl.Reach (Zcl m f) f.block.toNat
theorem reach_go {m : Zak} {f : Zaw} (h : OkF m f) (hR : ReachF m f) {k : Int} (hk : k ∈ Fl.nxt (Zau m f)) (k0 : 0 ≤ k) (k1 : k < (Zcl m f).blocks.length) : Fl.Reach (Zcl m f) k.toNat := by
  refine Fl.Reach.step hR ?_
  have hin : ∀ n : Int, 0 ≤ n → n < (Zcl m f).blocks.length → Fl.isIn (Zcl m f) n = true := fun n h0 h1 => by
    show (bif decide (0 ≤ n) then decide (n < ((Zcl m f).blocks.length : Int)) else false) = true
    rw [decide_eq_true h0, decide_eq_true h1]; rfl
  unfold Fl.next
  rw [if_pos (hin _ (by omega) (by have := h.b0; have := h.b1; omega))]
  unfold Fl.kept
  rw [List.mem_filter]
  exact ⟨hk, by show (!(!Fl.isIn (Zcl m f) k)) = true; rw [hin k k0 k1]; rfl⟩
theorem reach_inv {m : Zak} (hr : Zbg m = true) : FrInv m (ReachF m) where
  new n args h0 h1 := Fl.Reach.zero (by
    have h := okF_new (args := args) hr h0 h1
    have := h.b0; have := h.b1; omega)
  reck f _ _ h _ _ := h
  put f w _ _ h _ := h
  on f _ _ h _ := h
  go f hF he h hk := by
    have hG := okF_goF hr hF (by omega) (by omega) (by omega) (by omega)
    refine reach_go hF h ?_ hG.b0 hG.b1
    show (if (Zau m f).fin.kind = 3 ∧ regA f (Zau m f).fin.a = 0 then (Zau m f).fin.els else (Zau m f).fin.to) ∈ _
    unfold Fl.nxt Fl.Zee
    rcases hk with hk | hk
    · simp [hk]
    · by_cases hz : regA f (Zau m f).fin.a = 0 <;> simp [hk, hz]
  to f w hF he h hk := by
    have h4 := (Zfq hr hF).2
    have hto : inn (Zau m f).fin.to (Zcl m f).blocks.length = true := by
      rcases h4 with h | h | h | h | h
      · omega
      · omega
      · omega
      · have := goal_inM h.2.2.2.2.1; exact (Zad _ _).2 this
      · omega
    have := (Zad _ _).1 hto
    refine reach_go hF h ?_ this.1 this.2
    unfold Fl.nxt Fl.Zee
    simp [hk]
  land f w hF he h hk := by
    have := (okF_pad hr hF hk).1
    refine reach_go hF h ?_ this.1 this.2
    unfold Fl.nxt Fl.Zee
    simp [hk]
    exact .inr rfl
end Go.Proofs.YtoelbgjpmpoolaaGreat
namespace Go.Proofs.YtoelbgjpmpoolaaGreat
open Go Dv
set_option maxRecDepth 10000
set_option linter.unusedSimpArgs false
theorem c_fFun (m : Zak) (n : Int) (hr : Zbg m = true) (h0 : 0 ≤ n) (h1 : n < m.funcs.length) : FC Tryz.prog 118 [.agg (Zbj m), iv n] (.tup [.agg (Zcg (m.funcs.getD n.toNat default)), .bool true]) := by
  refine Zav tok Tryz.func118 rfl (by decide +kernel) (Nat.le_of_ble_eq_true rfl) ?_
  have hR := c_lRight c_lpad m
  rw [hr] at hR
  (repeat' first | refine Zac ?_ | (refine Zab tok (by rfl) ?_; conv => whnf))
  refine .inl ⟨_, _, _, uG (QC.fc hR rfl), ?_⟩
  conv => whnf
  ((repeat' first | refine Zac ?_ | (refine Zab tok (by rfl) ?_; conv => whnf) | (refine Zag ?_; conv => whnf) | (refine Zaj ?_; conv => whnf) | refine Zaf rfl (fun hb => ?_) (fun hb => ?_) | (refine @And.intro (Zaa _ _ _ _) _ ?_ ?_; rotate_left; (conv => whnf); rotate_right)); all_goals (try ((guard_target = Zaa _ _ _ _); refine Zae ?_; (all_goals (try simp only [Zaa, kzz, kz11, kz12, maxL, Zad] at *)); all_goals omega)))
  · exfalso
    rw [decide_eq_false (show ¬ n < 0 by omega), decide_eq_false (show ¬ (m.funcs.length : Int) ≤ n by omega)] at hb
    cases hb
  · exact ⟨_, rfl, Rel.tup (.cons (Rel.agg (Rels.imm rfl)) (.cons (Rel.imm rfl) .nil))⟩
theorem c_fAt (f : Zaw) (n : Int) : FC Tryz.prog 195 [.agg (Zbp f), iv n] (.tup [.int .u16 (if thereB f n = true then f.regs.getD n.toNat 0 else 0), .bool (thereB f n)]) := by
  refine Zav tok Tryz.func195 rfl (by decide +kernel) (Nat.le_of_ble_eq_true rfl) ?_
  ((repeat' first | refine Zac ?_ | (refine Zab tok (by rfl) ?_; conv => whnf) | (refine Zag ?_; conv => whnf) | (refine Zaj ?_; conv => whnf) | refine Zaf rfl (fun hb => ?_) (fun hb => ?_) | (refine @And.intro (Zaa _ _ _ _) _ ?_ ?_; rotate_left; (conv => whnf); rotate_right)); all_goals (try ((guard_target = Zaa _ _ _ _); refine Zae ?_; (all_goals (try simp only [Zaa, kzz, kz11, kz12, maxL, Zad] at *)); all_goals omega)))
  · have hn : thereB f n = false := by
      unfold thereB; rw [decide_eq_false_iff_not]; intro h
      rw [decide_eq_false (show ¬ n < 0 by omega), decide_eq_false (show ¬ (f.regs.length : Int) ≤ n by omega)] at hb
      cases hb
    rw [hn]
    exact ⟨_, rfl, Rel.tup (.cons (Rel.imm rfl) (.cons (Rel.imm rfl) .nil))⟩
  · have hn : thereB f n = true := by
      unfold thereB; rw [decide_eq_true_eq]
      by_cases e1 : n < 0
      · rw [decide_eq_true e1] at hb; cases hb
      · rw [decide_eq_false e1] at hb
        by_cases e2 : (f.regs.length : Int) ≤ n
        · rw [decide_eq_true e2] at hb; cases hb
        · omega
    rw [hn]
    exact ⟨_, rfl, Rel.tup (.cons (Rel.imm rfl) (.cons (Rel.imm rfl) .nil))⟩
theorem c_fRight (m : Zak) (f : Zaw) (hr : Zbg m = true) (h : OkF m f) : FC Tryz.prog 122 [.agg (Zbj m), .agg (Zbp f)] (.bool true) := by
  refine Zav tok Tryz.func122 rfl (by decide +kernel) (Nat.le_of_ble_eq_true rfl) ?_
  have h1 := c_fFun m f.f hr h.f0 h.f1
  have f0 := h.f0
  have f1 := h.f1
  have b0 := h.b0
  have b1 : f.block < (m.funcs.getD f.f.toNat default).blocks.length := h.b1
  have a0 := h.a0
  have a1 : f.at_ ≤ ((m.funcs.getD f.f.toNat default).blocks.getD f.block.toNat default).ins.length := h.a1
  have hg : (f.regs.length : Int) = (m.funcs.getD f.f.toNat default).regs := h.regs
  generalize m.funcs.getD f.f.toNat default = F at *
  (repeat' first | refine Zac ?_ | (refine Zab tok (by rfl) ?_; conv => whnf))
  refine .inl ⟨_, _, _, uG (QC.fc h1 rfl), ?_⟩
  conv => whnf
  ((repeat' first | refine Zac ?_ | (refine Zab tok (by rfl) ?_; conv => whnf) | (refine Zap tok mix (by rfl) ?_; conv => whnf) | (refine Zag ?_; conv => whnf) | (refine Zaj ?_; conv => whnf) | refine Zaf rfl (fun hb => ?_) (fun hb => ?_) | (refine @And.intro (Zaa _ _ _ _) _ ?_ ?_; rotate_left; (conv => whnf); rotate_right)); all_goals (try ((guard_target = Zaa _ _ _ _); ((refine Zbe ?_; intro hgd; (conv at hgd => whnf))); (all_goals (try simp only [Zaa, kzz, kz11, kz12, maxL, Zad] at *)); all_goals omega)))
  · exfalso
    rw [decide_eq_false (show ¬ f.block < 0 by omega), decide_eq_false (show ¬ (F.blocks.length : Int) ≤ f.block by omega), decide_eq_true hg] at hb
    cases hb
  · refine ⟨_, rfl, Rel.bool ?_⟩
    rw [decide_eq_true a0, decide_eq_true a1]; rfl
end Go.Proofs.YtoelbgjpmpoolaaGreat
namespace Go.Proofs.YtoelbgjpmpoolaaGreat
open Go Dv
set_option maxRecDepth 10000
set_option linter.unusedSimpArgs false
theorem c_fAns (f : Zaw) (x : Ins) (h1 : 1 ≤ x.op) (h8 : x.op ≤ 8) (ha : 1 < x.op → 0 ≤ x.a ∧ x.a < f.regs.length) (hb' : 2 < x.op → 0 ≤ x.b ∧ x.b < f.regs.length) :
    FC Tryz.prog 194 [.agg (Zbp f), .agg (Zbf x)] (.tup [.int .u16 (reckV f x).1, .bool (reckV f x).2]) := by
  refine Zav tok Tryz.func194 rfl (by decide +kernel) (Nat.le_of_ble_eq_true rfl) ?_
  have hat : ∀ n, (0 ≤ n ∧ n < (f.regs.length : Int)) → FC Tryz.prog 195 [.agg (Zbp f), iv n] (.tup [.int .u16 (f.regs.getD n.toNat 0), .bool true]) := fun n h => by
    have := c_fAt f n
    rw [show thereB f n = true from decide_eq_true h, if_pos rfl] at this; exact this
  by_cases h2 : 1 < x.op
  · have hA := hat x.a (ha h2)
    (repeat' ((fail_if_success (show AWp _ _ _ (Code.region 2 _ _) _ _)); (fail_if_success (show AWp _ _ _ (Code.region 3 _ _) _ _)); first | refine Zac ?_ | (refine Zab tok (by rfl) ?_; conv => whnf) | (refine Zag ?_; conv => whnf) | refine Zaf rfl (fun hb => ?_) (fun hb => ?_)))
    · exfalso; simp at hb; omega
    clear hb
    have hV : reckV f x = doW x.op (f.regs.getD x.a.toNat 0) (if 2 < x.op then f.regs.getD x.b.toNat 0 else 0) := if_neg (by omega)
    rw [hV]
    (repeat' (refine Zab tok (by rfl) ?_; conv => whnf))
    refine .inl ⟨_, _, _, uG (QC.fc hA rfl), ?_⟩
    conv => whnf
    (repeat' first | refine Zac ?_ | (refine Zab tok (by rfl) ?_; conv => whnf))
    refine .inl ⟨_, _, _, uG (QC.fc (c_Two x.op) rfl), ?_⟩
    conv => whnf
    (repeat' ((fail_if_success (show AWp _ _ _ (Code.region 6 _ _) _ _)); (fail_if_success (show AWp _ _ _ (Code.region 7 _ _) _ _)); first | refine Zac ?_ | (refine Zag ?_; conv => whnf) | refine Zaf rfl (fun hb => ?_) (fun hb => ?_)))
    · have h3 : 2 < x.op := by
        have : twoO x.op = true := by simpa using hb
        unfold twoO at this
        cases e : decide (2 < x.op) with
        | true => simpa using e
        | false => rw [e] at this; cases this
      clear hb
      rw [if_pos h3]
      (repeat' (refine Zab tok (by rfl) ?_; conv => whnf))
      refine .inl ⟨_, _, _, uG (QC.fc (hat x.b (hb' h3)) rfl), ?_⟩
      conv => whnf
      (repeat' ((fail_if_success (show AWp _ _ _ (Code.region 8 _ _) _ _)); (fail_if_success (show AWp _ _ _ (Code.region 9 _ _) _ _)); first | refine Zac ?_ | (refine Zab tok (by rfl) ?_; conv => whnf) | (refine Zag ?_; conv => whnf) | refine Zaf rfl (fun hb => ?_) (fun hb => ?_)))
      · cases hb
      clear hb
      (repeat' (refine Zab tok (by rfl) ?_; conv => whnf))
      refine .inl ⟨_, _, _, uG (QC.fc (c_Do x.op (f.regs.getD x.a.toNat 0) (f.regs.getD x.b.toNat 0)) rfl), ?_⟩
      conv => whnf
      (repeat' (refine Zaj ?_; conv => whnf))
      exact ⟨_, rfl, Rel.tup (.cons (Rel.imm rfl) (.cons (Rel.imm rfl) .nil))⟩
    · have h3 : ¬ 2 < x.op := by
        have : twoO x.op = false := by simpa using hb
        unfold twoO at this
        intro h
        rw [decide_eq_true h, cond_true, decide_eq_true h8] at this; cases this
      clear hb
      rw [if_neg h3]
      (repeat' ((fail_if_success (show AWp _ _ _ (Code.region 8 _ _) _ _)); (fail_if_success (show AWp _ _ _ (Code.region 9 _ _) _ _)); first | refine Zac ?_ | (refine Zab tok (by rfl) ?_; conv => whnf) | (refine Zag ?_; conv => whnf) | refine Zaf rfl (fun hb => ?_) (fun hb => ?_)))
      · cases hb
      clear hb
      (repeat' (refine Zab tok (by rfl) ?_; conv => whnf))
      refine .inl ⟨_, _, _, uG (QC.fc (c_Do x.op (f.regs.getD x.a.toNat 0) 0) rfl), ?_⟩
      conv => whnf
      (repeat' (refine Zaj ?_; conv => whnf))
      exact ⟨_, rfl, Rel.tup (.cons (Rel.imm rfl) (.cons (Rel.imm rfl) .nil))⟩
  · have h2' : x.op = 1 := by omega
    have hV : reckV f x = (x.k, true) := if_pos h2'
    rw [hV]
    (repeat' first | refine Zac ?_ | (refine Zab tok (by rfl) ?_; conv => whnf) | (refine Zag ?_; conv => whnf) | (refine Zaj ?_; conv => whnf) | refine Zaf rfl (fun hb => ?_) (fun hb => ?_))
    · exact ⟨_, rfl, Rel.tup (.cons (Rel.imm rfl) (.cons (Rel.imm rfl) .nil))⟩
    all_goals (exfalso; rw [h2'] at hb; cases hb)
abbrev r0 : Dv.Id := (905, 0, 0)
def regB (l : List Int) : Zam := .row true 1 l.length (fun x => [.int .u16 (l.getD x 0)])
def oneR (l : List Int) : Zan := orH (Zaz [(r0, regB l)]) noH
def frO (f : Zaw) (r : AV) : List AV := [iv f.f, iv f.block, iv f.at_, r, .int .u16 f.fly]
theorem leaveR {h : Zan} {hl : List (Dv.Id × Zam)} {F : Zan} (S : List (Dv.Id × Option Dv.Id)) (hn : Zcj (tgts S) = true) (hf : ∀ i ∈ tgts S, orH (Zaz hl) F i = none ∨ i ∈ S.map (·.1)) (hh : HLs (srcL S) h (orH (Zaz hl) F) hl)
    (hF : ∀ j b, F j = some b → HOk (srcL S) h (orH (Zaz hl) F) j b) :
    (∀ j j' i, (orH (Zaz hl) F j).isSome = true → (orH (Zaz hl) F j').isSome = true → srcL S j = some i → srcL S j' = some i → j = j') ∧ ∀ j b, orH (Zaz hl) F j = some b → HOk (srcL S) h (orH (Zaz hl) F) j b :=
  ⟨Zex hn hf, fun j b e => by
    rcases orH_some e with e1 | ⟨_, e1⟩
    · exact hh.spec e1
    · exact hF j b e1⟩
theorem c_copied (f : Zaw) : HF Tryz.prog 158 [.agg (Zbp f)] (.agg (frO f (.rs r0 1 0 f.regs.length))) (oneR f.regs) := by
  refine Zf1 tok Tryz.func158 rfl (by decide +kernel) (Nat.le_of_ble_eq_true rfl) ?_
  (repeat' first | refine Zac ?_ | (refine Zab tok (by rfl) ?_; conv => whnf))
  refine .inl ⟨_, _, _, uG (QC.fo (rd := []) (Zfz f.regs) (Ress.imms rfl) (.inl rfl) rfl), ?_⟩
  conv => whnf
  (repeat' first | refine Zac ?_ | (refine Zab tok (by rfl) ?_; conv => whnf) | (refine Zaj ?_; conv => whnf))
  refine ⟨_, srcL [(r0, some (5, 0, 0))], rfl, ?_⟩
  rw [← and_assoc]
  refine ⟨leaveR [(r0, some (5, 0, 0))] rfl (fun c hc => ?_) (.old rfl rfl (GB.rowI (Nat.le_refl _) (fun q hq => ⟨rfl, rfl⟩)) .nil) (fun j b e => by cases e), .agg (.cons (.imm rfl) (.cons (.imm rfl) (.cons (.imm rfl) (.cons (.rs rfl rfl rfl rfl) (.cons (.imm rfl) .nil)))))⟩
  simp only [tgts, List.mem_cons, List.not_mem_nil, or_false] at hc
  subst hc; exact .inl rfl
theorem Zc3 {l : List Int} {i : Dv.Id} (h : (oneR l i).isSome = true) : i = r0 := by
  unfold oneR orH noH at h
  simp only [Zaz] at h
  cases e : idEq r0 i with
  | true => exact (Za3.1 e).symm
  | false => rw [e] at h; cases h
theorem c_Go (f : Zaw) (b : Int) : HF Tryz.prog 115 [.agg (Zbp f), iv b] (.agg (frO { f with block := b, at_ := 0 } (.rs r0 1 0 f.regs.length))) (oneR f.regs) := by
  refine Zf1 tok Tryz.func115 rfl (by decide +kernel) (Nat.le_of_ble_eq_true rfl) ?_
  (repeat' first | refine Zac ?_ | (refine Zab tok (by rfl) ?_; conv => whnf))
  refine .inr ⟨_, _, _, uG (QH.ofF (c_copied f) rfl (fun i hi => by rw [Zc3 hi]; rfl)), ?_⟩
  conv => whnf
  (repeat' first | refine Zac ?_ | (refine Zab tok (by rfl) ?_; conv => whnf) | (refine Zaj ?_; conv => whnf))
  refine ⟨_, srcL [], rfl, ?_⟩
  rw [← and_assoc]
  refine ⟨leaveR [] rfl (fun c hc => by cases hc) (.old rfl rfl (GB.rowI (Nat.le_refl _) (fun q hq => ⟨rfl, rfl⟩)) .nil) (fun j b e => by cases e), .agg (.cons (.imm rfl) (.cons (.imm rfl) (.cons (.imm rfl) (.cons (.rs rfl rfl rfl rfl) (.cons (.imm rfl) .nil)))))⟩
end Go.Proofs.YtoelbgjpmpoolaaGreat
namespace Go.Proofs.YtoelbgjpmpoolaaGreat
open Go Dv
set_option maxRecDepth 10000
set_option linter.unusedSimpArgs false
abbrev r1 : Dv.Id := (906, 0, 0)
set_option maxHeartbeats 2000000 in
theorem c_fReckon (f : Zaw) (x : Ins) (hat0 : 0 ≤ f.at_) (hat : f.at_ < 1000000) (h1 : 1 ≤ x.op) (h8 : x.op ≤ 8) (hd : 0 ≤ x.dst ∧ x.dst < f.regs.length) (ha : 1 < x.op → 0 ≤ x.a ∧ x.a < f.regs.length) (hb' : 2 < x.op → 0 ≤ x.b ∧ x.b < f.regs.length) :
    HF Tryz.prog 156 [.agg (Zbp f), .agg (Zbf x)] (.tup [.agg (frO (Zdc f x).1 (.rs r0 1 0 (Zdc f x).1.regs.length)), .bool (Zdc f x).2]) (oneR (Zdc f x).1.regs) := by
  refine Zf1 tok Tryz.func156 rfl (by decide +kernel) (Nat.le_of_ble_eq_true rfl) ?_
  refine Zas 0 (fun hl => ?_)
  have hl0 : f.regs.length ≤ maxL := hl.2.2.2.1.1
  have hmx : maxL = 4294967296 := rfl
  clear hl
  have hT : FC Tryz.prog 195 [.agg (Zbp f), iv x.dst] (.tup [.int .u16 (f.regs.getD x.dst.toNat 0), .bool true]) := by
    have := c_fAt f x.dst
    rw [show thereB f x.dst = true from decide_eq_true hd, if_pos rfl] at this; exact this
  have hA := c_fAns f x h1 h8 ha hb'
  (repeat' first | refine Zac ?_ | (refine Zab tok (by rfl) ?_; conv => whnf))
  refine .inr ⟨_, _, _, uG (QH.ofF (c_copied f) rfl (fun i hi => by rw [Zc3 hi]; rfl)), ?_⟩
  conv => whnf
  (repeat' first | refine Zac ?_ | (refine Zab tok (by rfl) ?_; conv => whnf))
  refine .inl ⟨_, _, _, uG (QC.sc (rd := [r0]) hA (.cons (.agg (.cons (.imm rfl) (.cons (.imm rfl) (.cons (.imm rfl) (.cons (.row rfl (.head _) rfl rfl (fun _ _ => rfl)) (.cons (.imm rfl) .nil)))))) (.cons (.imm rfl) .nil)) rfl), ?_⟩
  conv => whnf
  (repeat' first | refine Zac ?_ | (refine Zab tok (by rfl) ?_; conv => whnf))
  refine .inl ⟨_, _, _, uG (QC.sc (rd := [r0]) hT (.cons (.agg (.cons (.imm rfl) (.cons (.imm rfl) (.cons (.imm rfl) (.cons (.row rfl (.head _) rfl rfl (fun _ _ => rfl)) (.cons (.imm rfl) .nil)))))) (.cons (.imm rfl) .nil)) rfl), ?_⟩
  conv => whnf
  (repeat' ((fail_if_success (show AWp _ _ _ (Code.region 5 _ _) _ _)); (fail_if_success (show AWp _ _ _ (Code.region 6 _ _) _ _)); first | refine Zac ?_ | (refine Zab tok (by rfl) ?_; conv => whnf) | (refine Zag ?_; conv => whnf) | refine Zaf rfl (fun hb => ?_) (fun hb => ?_)))
  · have hv : Zdc f x = (f, false) := if_neg (by simpa using hb)
    rw [hv]
    (repeat' first | (refine Zab tok (by rfl) ?_; conv => whnf) | (refine Zaj ?_; conv => whnf))
    refine ⟨_, srcL [], rfl, ?_⟩
    rw [← and_assoc]
    exact ⟨leaveR [] rfl (fun c hc => by cases hc) (.old rfl rfl (GB.rowI (Nat.le_refl _) (fun q hq => ⟨rfl, rfl⟩)) .nil) (fun j b e => by cases e), .tup (.cons (.agg (.cons (.imm rfl) (.cons (.imm rfl) (.cons (.imm rfl) (.cons (.rs rfl rfl rfl rfl) (.cons (.imm rfl) .nil)))))) (.cons (.imm rfl) .nil))⟩
  · have hv : Zdc f x = ({ frW f x.dst (reckV f x).1 with at_ := f.at_ + 1 }, true) := if_pos (by simpa using hb)
    rw [hv]
    have hz : x.dst.toNat < f.regs.length := by omega
    have hlen : (frW f x.dst (reckV f x).1).regs.length = f.regs.length := by simp [frW]
    ((repeat' first | refine Zac ?_ | (refine Zab tok (by rfl) ?_; conv => whnf) | (refine Zaj ?_; conv => whnf) | (refine @And.intro (Zaa _ _ _ _) _ ?_ ?_; rotate_left; (conv => whnf); rotate_right)); all_goals (try ((guard_target = Zaa _ _ _ _); refine Zae ?_; (all_goals (try simp only [Zaa, kzz, kz11, kz12, maxL, Zad] at *)); all_goals omega)))
    refine ⟨_, srcL [], rfl, ?_⟩
    rw [← and_assoc]
    refine ⟨leaveR [] rfl (fun c hc => by cases hc) (.old rfl rfl (GB.rowI (Nat.le_of_eq hlen) (fun q hq => ⟨?_, ?_⟩)) .nil) (fun j b e => by cases e), .tup (.cons (.agg (.cons (.imm rfl) (.cons (.imm rfl) (.cons (.int (Zal (by omega) (by omega))) (.cons (.rs rfl rfl rfl hlen.symm) (.cons (.imm rfl) .nil)))))) (.cons (.imm rfl) .nil))⟩
    · rw [Nat.zero_add, rowSet (l := f.regs) hz]; rfl
    · rw [Nat.zero_add]; exact rowSet (l := f.regs) hz
set_option maxHeartbeats 2000000 in
theorem c_fLand (m : Zak) (f : Zaw) (pad w : Int) (hr : Zbg m = true) (hF : OkF m f) (p0 : 0 ≤ pad) (p1 : pad < (m.funcs.getD f.f.toNat default).blocks.length) (hl : (padOf m f pad).landing = true)
    (hd : 0 ≤ (padOf m f pad).pad.dst ∧ (padOf m f pad).pad.dst < f.regs.length) :
    HF Tryz.prog 163 [.agg (Zbj m), .agg (Zbp f), iv pad, .int .u16 w] (.tup [.agg (frO (landF m f pad w) (.rs r0 1 0 (landF m f pad w).regs.length)), iv 0]) (oneR (landF m f pad w).regs) := by
  refine Zf1 tok Tryz.func163 rfl (by decide +kernel) (Nat.le_of_ble_eq_true rfl) ?_
  refine Zas 1 (fun hl => ?_)
  have hl0 : f.regs.length ≤ maxL := hl.2.2.2.1.1
  have hmx : maxL = 4294967296 := rfl
  clear hl
  have hRt := c_fRight m f hr hF
  have hG : FC Tryz.prog 122 [.agg (Zbj m), .agg (Zbp f)] (.bool true) := hRt
  have f0 := hF.f0
  have f1 := hF.f1
  have hz : (padOf m f pad).pad.dst.toNat < f.regs.length := by omega
  have hlen : (landF m f pad w).regs.length = f.regs.length := by simp [landF, frW]
  unfold padOf at hl hd hz
  (repeat' first | refine Zac ?_ | (refine Zab tok (by rfl) ?_; conv => whnf))
  refine .inr ⟨_, _, _, uG (QH.ofF (c_copied f) rfl (fun i hi => by rw [Zc3 hi]; rfl)), ?_⟩
  conv => whnf
  (repeat' first | refine Zac ?_ | (refine Zab tok (by rfl) ?_; conv => whnf))
  refine .inl ⟨_, _, _, uG (QC.sc (rd := [r0]) hRt (.cons (.imm rfl) (.cons (.agg (.cons (.imm rfl) (.cons (.imm rfl) (.cons (.imm rfl) (.cons (.row rfl (.head _) rfl rfl (fun _ _ => rfl)) (.cons (.imm rfl) .nil)))))) .nil)) rfl), ?_⟩
  conv => whnf
  ((repeat' ((fail_if_success (show AWp _ _ _ (Code.region 3 _ _) _ _)); (fail_if_success (show AWp _ _ _ (Code.region 4 _ _) _ _)); first | refine Zac ?_ | (refine Zag ?_; conv => whnf) | refine Zaf rfl (fun hb => ?_) (fun hb => ?_) | (refine @And.intro (Zaa _ _ _ _) _ ?_ ?_; rotate_left; (conv => whnf); rotate_right))); all_goals (try ((guard_target = Zaa _ _ _ _); ((refine Zbe ?_; intro hgd; (conv at hgd => whnf))); (all_goals (try simp only [Zaa, kzz, kz11, kz12, maxL, Zad] at *)); all_goals omega)))
  · exfalso
    rw [decide_eq_false (show ¬ pad < 0 by omega), decide_eq_false (show ¬ ((m.funcs.getD f.f.toNat default).blocks.length : Int) ≤ pad by omega), hl] at hb
    cases hb
  clear hb
  refine Za0 (Weak.fam (L := []) (tl := [(2, iv pad), (3, .int .u16 w), (4, .bp (4, 0, 0) 0), (5, .bp (5, 0, 0) 0), (8, .bp (8, 0, 0) 0)]) (hl := [((4, 0, 0), Zba (Zbj m)), ((5, 0, 0), .row false 5 1 (fun _ => frO f (.rs r1 1 0 f.regs.length))), ((8, 0, 0), Zba [iv 0, iv 0, iv 0, .nsl, .int .u16 0]), ((906, 0, 0), regB f.regs)]) (F := noH) [(r1, some r0)] rfl (fun c hc => ?_) ?_ ?_ noF (fun i hi => by cases hi)) ?_
  · simp only [tgts, List.mem_cons, List.not_mem_nil, or_false] at hc
    subst hc; exact .inl rfl
  · (repeat' first | exact TLg.nil | refine TLg.cons (GV.imm rfl) ?_ | refine TLg.cons (GV.bp rfl rfl) ?_)
    all_goals rfl
  · exact .old rfl rfl (GB.one (GVs.imm rfl) (fun _ => rfl)) (.old rfl rfl (GB.one (.cons (.imm rfl) (.cons (.imm rfl) (.cons (.imm rfl) (.cons (.rs rfl rfl rfl rfl) (.cons (.imm rfl) .nil))))) (fun e => by cases e)) (.old rfl rfl (GB.one (GVs.imm rfl) (fun _ => rfl)) (.old rfl rfl (GB.rowI (Nat.le_refl _) (fun q hq => ⟨rfl, rfl⟩)) .nil)))
  (repeat' (refine Zab tok (by rfl) ?_; conv => whnf))
  refine .inr ⟨_, _, _, uG (QH.lendF (rd := [r1]) (c_Go f pad) (.cons (.agg (.cons (.imm rfl) (.cons (.imm rfl) (.cons (.imm rfl) (.cons (.row rfl (.head _) rfl rfl (fun _ _ => rfl)) (.cons (.imm rfl) .nil)))))) (.cons (.imm rfl) .nil)) (fun i hi => by rw [Zc3 hi]; rfl) rfl (fun j b e => by
    have := Zc3 (i := j) (by rw [e]; rfl)
    subst this; cases e; exact fun i hi => rfl)), ?_⟩
  conv => whnf
  ((repeat' first | refine Zac ?_ | (refine Zab tok (by rfl) ?_; conv => whnf) | (refine Zap tok mix (by rfl) ?_; conv => whnf) | (refine Zaj ?_; conv => whnf) | (refine @And.intro (Zaa _ _ _ _) _ ?_ ?_; rotate_left; (conv => whnf); rotate_right)); all_goals (try ((guard_target = Zaa _ _ _ _); refine Zae ?_; (all_goals (try simp only [Zaa, kzz, kz11, kz12, maxL, Zad] at *)); all_goals omega)))
  refine ⟨_, srcL [], rfl, ?_⟩
  rw [← and_assoc]
  refine ⟨leaveR [] rfl (fun c hc => by cases hc) (.old rfl rfl (GB.rowI (Nat.le_of_eq hlen) (fun q hq => ⟨?_, ?_⟩)) .nil) (fun j b e => by cases e), .tup (.cons (.agg (.cons (.imm rfl) (.cons (.imm rfl) (.cons (.imm rfl) (.cons (.rs rfl rfl rfl hlen.symm) (.cons (.imm rfl) .nil)))))) (.cons (.imm rfl) .nil))⟩
  · rw [Nat.zero_add, rowSet (l := f.regs) hz]; rfl
  · rw [Nat.zero_add]; exact rowSet (l := f.regs) hz
end Go.Proofs.YtoelbgjpmpoolaaGreat
namespace Go.Proofs.YtoelbgjpmpoolaaGreat
open Go Dv
set_option maxRecDepth 10000
set_option linter.unusedSimpArgs false
set_option maxHeartbeats 2000000 in
theorem c_fNew (m : Zak) (n : Int) (args : List Int) (hr : Zbg m = true) (h0 : 0 ≤ n) (h1 : n < m.funcs.length) (hp : (args.length : Int) = (m.funcs.getD n.toNat default).params) :
    HF Tryz.prog 67 [.agg (Zbj m), iv n, u16s args] (.tup [.agg (frO (frN m n args) (.rs r0 1 0 (frN m n args).regs.length)), iv 0]) (oneR (frN m n args).regs) := by
  refine Zf1 tok Tryz.func67 rfl (by decide +kernel) (Nat.le_of_ble_eq_true rfl) ?_
  have hmx : maxL = 4294967296 := rfl
  have hFn := c_fFun m n hr h0 h1
  have hP := okF_funP (Zey hr (show n.toNat < m.funcs.length by omega))
  have hgen : ∃ F, m.funcs.getD n.toNat default = F := ⟨_, rfl⟩
  obtain ⟨F, hF⟩ := hgen
  rw [hF] at hp hFn hP
  have hR0 : 0 ≤ F.regs ∧ F.regs ≤ 256 ∧ (args.length : Int) ≤ F.regs := by have := hP.1; have := hP.2.2.1; have := hP.2.2.2.1; omega
  have hfr : frN m n args = ⟨n, 0, 0, (List.range F.regs.toNat).map (regN args), 0⟩ := by unfold frN; rw [hF]
  have hlen : ((List.range F.regs.toNat).map (regN args)).length = F.regs.toNat := by simp
  rw [hfr]
  (repeat' first | refine Zac ?_ | (refine Zab tok (by rfl) ?_; conv => whnf))
  refine .inl ⟨_, _, _, uG (QC.fc hFn rfl), ?_⟩
  conv => whnf
  (repeat' ((fail_if_success (show AWp _ _ _ (Code.region 3 _ _) _ _)); (fail_if_success (show AWp _ _ _ (Code.region 4 _ _) _ _)); first | refine Zac ?_ | (refine Zab tok (by rfl) ?_; conv => whnf) | (refine Zag ?_; conv => whnf) | refine Zaf rfl (fun hb => ?_) (fun hb => ?_)))
  · exfalso; rw [decide_eq_true hp] at hb; cases hb
  clear hb
  ((repeat' ((fail_if_success (show AWp _ _ _ (Code.region 5 _ _) _ _)); first | refine Zac ?_ | (refine Zab tok (by rfl) ?_; conv => whnf) | (refine @And.intro (Zaa _ _ _ _) _ ?_ ?_; rotate_left; (conv => whnf); rotate_right))); all_goals (try ((guard_target = Zaa _ _ _ _); refine Zae ?_; (all_goals (try simp only [Zaa, kzz, kz11, kz12, maxL, Zad] at *)); all_goals omega)))
  refine Za0 (Weak.list (tl := [(1, iv n), (2, u16s args), (3, .bp (3, 0, 0) 0), (6, .bp (6, 0, 0) 0), (10, .bp (10, 0, 0) 0)]) [((3, 0, 0), .old (3, 0, 0), Zba (Zbj m)), ((6, 0, 0), .old (6, 0, 0), Zba [iv 0, iv 0, iv 0, .nsl, .int .u16 0]), ((10, 0, 0), .old (10, 0, 0), .row false 5 1 (fun _ => [iv n, iv 0, iv 0, .rs (30, 0, 0) 1 0 F.regs.toNat, .int .u16 0])), ((30, 0, 0), .old (30, 0, 0), .row true 1 F.regs.toNat (fun _ => [.int .u16 0]))] rfl (by rfl) ?_ (.old rfl (BLe.refl _) (.old rfl (BLe.refl _) (.old rfl (BLe.rowW (Nat.le_refl _) (ltS (Wks.of rfl) lt0)) (.old rfl (BLe.refl _) .nil))))) ?_
  · ((repeat' first | exact TLes.nil | refine TLes.cons (TLe.eq rfl) ?_); skip)
  refine AWp_hand tok [_, _, _] _ [] rfl (by rfl) (by rfl) rfl ?_
  conv => whnf
  intro X ι a w s
  refine ⟨⟨.int .i64 args.length, .big [] (oneU (30, 0, 0) (.row true 1 F.regs.toNat (cpR args.length (fun i => [.int .u16 (args.getD i 0)]) (fun _ => [.int .u16 0])))), []⟩, copy_ok tok s rfl rfl rfl rfl rfl rfl rfl rfl rfl rfl trivial (Nat.le_refl _) (by omega), rfl, ?_⟩
  conv => whnf
  (repeat' first | refine Zac ?_ | (refine Zab tok (by rfl) ?_; conv => whnf) | (refine Zaj ?_; conv => whnf))
  refine ⟨_, srcL [(r0, some (30, 0, 0))], rfl, ?_⟩
  rw [← and_assoc]
  refine ⟨leaveR [(r0, some (30, 0, 0))] rfl (fun c hc => ?_) (.old rfl rfl (GB.rowI (Nat.le_of_eq hlen) (fun q hq => ⟨?_, ?_⟩)) .nil) (fun j b e => by cases e), .tup (.cons (.agg (.cons (.imm rfl) (.cons (.imm rfl) (.cons (.imm rfl) (.cons (.rs rfl rfl rfl hlen.symm) (.cons (.imm rfl) .nil)))))) (.cons (.imm rfl) .nil))⟩
  · simp only [tgts, List.mem_cons, List.not_mem_nil, or_false] at hc
    subst hc; exact .inl rfl
  · unfold cpR; cases Nat.blt q args.length <;> rfl
  · have hq2 : q < F.regs.toNat := by simpa using hq
    have e : ((List.range F.regs.toNat).map (regN args)).getD q 0 = regN args q := by
      rw [List.getD_eq_getElem?_getD, List.getElem?_map, List.getElem?_range hq2]; rfl
    show cpR args.length _ _ q = [.int .u16 (((List.range F.regs.toNat).map (regN args)).getD q 0)]
    rw [e]
    unfold cpR regN
    by_cases hqa : q < args.length
    · rw [show Nat.blt q args.length = true from by rw [Nat.blt_eq]; exact hqa, if_pos hqa]; rfl
    · rw [show Nat.blt q args.length = false from by rw [Bool.eq_false_iff]; intro h; rw [Nat.blt_eq] at h; exact hqa h, if_neg hqa]; rfl
end Go.Proofs.YtoelbgjpmpoolaaGreat
namespace Go.Proofs.YtoelbgjpmpoolaaGreat
open Go Dv
set_option maxRecDepth 10000
set_option linter.unusedSimpArgs false
end Go.Proofs.YtoelbgjpmpoolaaGreat
namespace Go.Proofs.YtoelbgjpmpoolaaGreat
open Go Dv
set_option maxRecDepth 10000
set_option linter.unusedSimpArgs false
theorem c_IndexU (l : List Int) (n : Int) : FC Tryz.prog 209 [u16s l, .int .u16 n] (iv (idxG (fun y => decide (n = y)) l)) := by
  refine Zav tok Tryz.func209 rfl (by decide +kernel) (Nat.le_of_ble_eq_true rfl) ?_
  refine Zas 0 (fun hl => ?_)
  have hl0 : l.length ≤ maxL := hl.1
  (repeat' first | refine Zac ?_ | (refine Zab tok (by rfl) ?_; conv => whnf) | refine Zai ?_)
  refine Zay (fun i : Nat => mkS [(0, u16s l), (1, .int .u16 n), (7, iv l.length), (8, iv i)] [])
    (fun i => i ≤ l.length ∧ ∀ j, j < i → decide (n = l.getD j 0) = false) (fun i => l.length - i) 0 ⟨Nat.zero_le _, by simp⟩ ?_ ?_
  · refine Weak.list [] rfl (by rfl) ?_ .nil
    ((repeat' first | exact TLes.nil | refine TLes.cons (TLe.eq rfl) ?_); skip)
  rintro i ⟨hi2, hc⟩
  ((repeat' first | refine Zac ?_ | (refine Zab tok (by rfl) ?_; conv => whnf) | refine Zai ?_ | (refine Zag ?_; conv => whnf) | (refine Za1 ?_; conv => whnf) | (refine Zaj ?_; conv => whnf) | refine Zaf rfl (fun hb => ?_) (fun hb => ?_) | (refine @And.intro (Zaa _ _ _ _) _ ?_ ?_; rotate_left; (conv => whnf); rotate_right)); all_goals (try ((guard_target = Zaa _ _ _ _); refine Zae ?_; (all_goals (try simp only [Zaa, kzz, kz11, kz12, maxL, Zad] at *)); all_goals omega)))
  · have hlt : i < l.length := by rename_i h; simp only [Zaa, kzz, kz11, kz12, maxL, Zad] at *; omega
    refine ⟨_, rfl, Rel.int ?_⟩
    exact (idxG_at 0 hlt hc (by simpa using hb)).symm
  · have hlt : i < l.length := by rename_i h; simp only [Zaa, kzz, kz11, kz12, maxL, Zad] at *; omega
    refine ⟨i + 1, ⟨hlt, fun j hj => ?_⟩, by omega, ?_⟩
    · by_cases e : j = i
      · subst e; simpa using hb
      · exact hc j (by omega)
    refine Weak.list [] rfl (by rfl) ?_ .nil
    ((repeat' first | exact TLes.nil | refine TLes.cons (TLe.eq rfl) ?_ | refine TLes.cons (TLe.int ?_) ?_); (all_goals first | ((try (simp only [Zaa, kzz, kz11, kz12, maxL, Zad] at *)); exact Zal (by omega) (by omega)) | skip))
  · refine ⟨_, rfl, Rel.int ?_⟩
    exact (idxG_none 0 (fun j hj => hc j (by simp only [Zaa, kzz, kz11, kz12, maxL, Zad] at *; omega))).symm
theorem c_ContainsU (l : List Int) (n : Int) : FC Tryz.prog 197 [u16s l, .int .u16 n] (.bool (hasB l n)) := by
  refine Zav tok Tryz.func197 rfl (by decide +kernel) (Nat.le_of_ble_eq_true rfl) ?_
  (repeat' first | refine Zac ?_ | (refine Zab tok (by rfl) ?_; conv => whnf))
  refine .inl ⟨_, _, _, uG (QC.fc (c_IndexU l n) rfl), ?_⟩
  conv => whnf
  (repeat' (refine Zaj ?_; conv => whnf))
  refine ⟨_, rfl, Rel.bool ?_⟩
  unfold hasB; rw [← idxG_any]
theorem hasB_mem {l : List Int} {n : Int} : hasB l n = decide (n ∈ l) := by
  unfold hasB
  rw [Bool.eq_iff_iff, List.any_eq_true, decide_eq_true_eq]
  constructor
  · rintro ⟨x, hx, e⟩; rw [decide_eq_true_eq] at e; rw [e]; exact hx
  · intro h; exact ⟨n, h, by simp⟩
theorem c_fCatches (p : Pad) (w : Int) : FC Tryz.prog 162 [.agg (encPad p), .int .u16 w] (.bool (catchF p w)) := by
  refine Zav tok Tryz.func162 rfl (by decide +kernel) (Nat.le_of_ble_eq_true rfl) ?_
  (repeat' first | refine Zac ?_ | (refine Zab tok (by rfl) ?_; conv => whnf))
  refine .inl ⟨_, _, _, uG (QC.fc (c_ContainsU p.catch_ w) rfl), ?_⟩
  conv => whnf
  (repeat' (refine Zaj ?_; conv => whnf))
  refine ⟨_, rfl, Rel.bool ?_⟩
  unfold catchF
  rw [← hasB_mem]
  cases p.all <;> cases hasB p.catch_ w <;> rfl
end Go.Proofs.YtoelbgjpmpoolaaGreat
namespace Go.Proofs.YtoelbgjpmpoolaaGreat
open Go Dv
set_option maxRecDepth 10000
set_option linter.unusedSimpArgs false
def sel (b : Bool) (x y : AV) : AV := bif b then x else y
theorem Zdk {a i : Nat} (h : i ≤ a) {x y : AV} : sel (Nat.blt a i) x y = y := by
  have : Nat.blt a i = false := by rw [Bool.eq_false_iff]; intro h2; rw [Nat.blt_eq] at h2; omega
  rw [this]; rfl
theorem Zcx {a i : Nat} (h : a < i) {x y : AV} : sel (Nat.blt a i) x y = x := by
  have : Nat.blt a i = true := by rw [Nat.blt_eq]; exact h
  rw [this]; rfl
section
variable {src : Dv.Id → Option Dv.Id} {h h' : Zan}
end
end Go.Proofs.YtoelbgjpmpoolaaGreat
namespace Go.Proofs.YtoelbgjpmpoolaaGreat
open Go Dv
set_option maxRecDepth 10000
set_option linter.unusedSimpArgs false
abbrev jB : Dv.Id := (1, 7, 0)
abbrev jF : Dv.Id := (2, 7, 0)
abbrev jE : Dv.Id := (942, 0, 0)
abbrev jT : Dv.Id := (944, 0, 0)
abbrev jN : Dv.Id := (941, 0, 0)
def evB (l : List Int) : Zam := .row true 1 l.length (fun x => [iv (l.getD x 0)])
def Zbc (l : List Zaw) (q : Nat) : AV := sel (Nat.blt q (l.length - 1)) (.rs (945, 0, q) 1 0 (l.getD q default).regs.length) (.rs jT 1 0 (l.getD q default).regs.length)
def frC (l : List Zaw) (q : Nat) : List AV := [iv (l.getD q default).f, iv (l.getD q default).block, iv (l.getD q default).at_, Zbc l q, .int .u16 (l.getD q default).fly]
def Zc2 (l : List Zaw) : Zam := .row false 5 l.length (frC l)
def famW (l : List Zaw) : Zan := famC 945 (fun z q => bif Nat.beq z 0 && Nat.blt q (l.length - 1) then some (regB (l.getD q default).regs) else none)
def macC (m : Zak) (s : Mach) : List AV := [.rs jF 5 0 s.stack.length, cw s.cells 0, cw s.cells 1, cw s.cells 2, cw s.cells 3, cw s.cells 4, cw s.cells 5, cw s.cells 6, cw s.cells 7, cw s.cells 8, cw s.cells 9, cw s.cells 10, cw s.cells 11, cw s.cells 12, cw s.cells 13, cw s.cells 14, cw s.cells 15, u16s s.inputs, .rs jE 1 0 s.events.length, iv s.done, .int .u16 s.value, funcss m.funcs]
def macB (m : Zak) (s : Mach) : Zam := .row false 22 1 (fun _ => macC m s)
def memL (m : Zak) (s : Mach) : List (Dv.Id × Zam) := [(jB, macB m s), (jF, Zc2 s.stack), (jE, evB s.events), (jT, regB (topF s).regs)]
def mem (m : Zak) (s : Mach) : Zan := orH (Zaz (memL m s)) (famW s.stack)
theorem famW_some {l : List Zaw} {j : Dv.Id} {b : Zam} (h : famW l j = some b) : ∃ q, j = (945, 0, q) ∧ q < l.length - 1 ∧ b = regB (l.getD q default).regs := by
  obtain ⟨z, q, rfl, h3⟩ := famC_some h
  cases e : (Nat.beq z 0 && Nat.blt q (l.length - 1)) with
  | false => rw [e] at h3; cases h3
  | true =>
    rw [e] at h3
    rw [Bool.and_eq_true, Nat.blt_eq] at e
    have hz : z = 0 := Nat.eq_of_beq_eq_true e.1
    subst hz
    exact ⟨q, rfl, e.2, (Option.some.inj h3).symm⟩
theorem Za2 {l : List Zaw} {q : Nat} (h : q < l.length - 1) : famW l (945, 0, q) = some (regB (l.getD q default).regs) := by
  show (bif Nat.beq 0 0 && Nat.blt q (l.length - 1) then some (regB (l.getD q default).regs) else none) = _
  rw [show (Nat.beq 0 0 && Nat.blt q (l.length - 1)) = true from by rw [Bool.and_eq_true, Nat.blt_eq]; exact ⟨rfl, h⟩]; rfl
theorem Zdu {m : Zak} {s : Mach} {q : Nat} : mem m s (945, 0, q) = famW s.stack (945, 0, q) := rfl
theorem Zb2 {m : Zak} {s : Mach} {j : Dv.Id} {b : Zam} (h : mem m s j = some b) : (j = jB ∧ b = macB m s) ∨ (j = jF ∧ b = Zc2 s.stack) ∨ (j = jE ∧ b = evB s.events) ∨ (j = jT ∧ b = regB (topF s).regs) ∨
    ∃ q, j = (945, 0, q) ∧ q < s.stack.length - 1 ∧ b = regB (s.stack.getD q default).regs := by
  rcases orH_some h with e | ⟨_, e⟩
  · simp only [memL, Zaz] at e
    cases e1 : idEq jB j with
    | true => rw [e1] at e; exact .inl ⟨(Za3.1 e1).symm, (Option.some.inj e).symm⟩
    | false =>
      cases e2 : idEq jF j with
      | true => rw [e1, e2] at e; exact .inr (.inl ⟨(Za3.1 e2).symm, (Option.some.inj e).symm⟩)
      | false =>
        cases e3 : idEq jE j with
        | true => rw [e1, e2, e3] at e; exact .inr (.inr (.inl ⟨(Za3.1 e3).symm, (Option.some.inj e).symm⟩))
        | false =>
          cases e4 : idEq jT j with
          | true => rw [e1, e2, e3, e4] at e; exact .inr (.inr (.inr (.inl ⟨(Za3.1 e4).symm, (Option.some.inj e).symm⟩)))
          | false => rw [e1, e2, e3, e4] at e; cases e
  · exact .inr (.inr (.inr (.inr (famW_some e))))
def D32 : List Dv.Id := [(945, 0, 0), (945, 0, 1), (945, 0, 2), (945, 0, 3), (945, 0, 4), (945, 0, 5), (945, 0, 6), (945, 0, 7), (945, 0, 8), (945, 0, 9), (945, 0, 10), (945, 0, 11), (945, 0, 12), (945, 0, 13), (945, 0, 14), (945, 0, 15), (945, 0, 16), (945, 0, 17), (945, 0, 18), (945, 0, 19), (945, 0, 20), (945, 0, 21), (945, 0, 22), (945, 0, 23), (945, 0, 24), (945, 0, 25), (945, 0, 26), (945, 0, 27), (945, 0, 28), (945, 0, 29), (945, 0, 30), (945, 0, 31)]
theorem D32_eq : D32 = (List.range 32).map fun q => (945, 0, q) := rfl
theorem Zf2 {i : Dv.Id} : i ∈ D32 ↔ ∃ q, q < 32 ∧ i = (945, 0, q) := by
  rw [D32_eq, List.mem_map]
  constructor
  · rintro ⟨q, hq, rfl⟩; exact ⟨q, List.mem_range.1 hq, rfl⟩
  · rintro ⟨q, hq, rfl⟩; exact ⟨q, List.mem_range.2 hq, rfl⟩
abbrev LW : List Dv.Id := [jB, jF]
theorem mem_closed (m : Zak) (s : Mach) : ∀ j b, mem m s j = some b → Dv.mapB (kpH (mem m s)) b = b := by
  intro j b h
  have kp : ∀ i, (mem m s i).isSome = true → kpH (mem m s) i = some i := fun i hi => by
    unfold kpH; cases e : mem m s i with
    | none => rw [e] at hi; cases hi
    | some b => rfl
  rcases Zb2 h with ⟨rfl, rfl⟩ | ⟨rfl, rfl⟩ | ⟨rfl, rfl⟩ | ⟨rfl, rfl⟩ | ⟨q, rfl, hq, rfl⟩
  · show Zam.row false 22 1 (fun _ => Zbh (kpH (mem m s)) (macC m s)) = _
    rfl
  · show Zam.row false 5 s.stack.length (fun q => Zbh (kpH (mem m s)) (frC s.stack q)) = Zam.row false 5 s.stack.length (frC s.stack)
    congr 1
    funext q
    show [_, _, _, Zbd _ (Zbc s.stack q), _] = _
    unfold frC
    congr 4
    unfold Zbc
    by_cases hq : q < s.stack.length - 1
    · rw [Zcx hq]
      show (match kpH (mem m s) (945, 0, q) with | some j => AV.rs j 1 0 _ | none => .any) = _
      rw [kp _ (by rw [Zdu, Za2 hq]; rfl)]
    · rw [Zdk (by omega)]; rfl
  · rfl
  · rfl
  · rfl
theorem mem_sub {m : Zak} {s : Mach} {h : Zan} (h1 : h jB = some (macB m s)) (h2 : h jF = some (Zc2 s.stack)) (h3 : h jE = some (evB s.events)) (h4 : h jT = some (regB (topF s).regs)) (h5 : ∀ q, q < s.stack.length - 1 → h (945, 0, q) = some (regB (s.stack.getD q default).regs)) :
    ∀ j b, mem m s j = some b → h j = some b := fun j b e => by
  rcases Zb2 e with ⟨rfl, rfl⟩ | ⟨rfl, rfl⟩ | ⟨rfl, rfl⟩ | ⟨rfl, rfl⟩ | ⟨q, rfl, hq, rfl⟩
  · exact h1
  · exact h2
  · exact h3
  · exact h4
  · exact h5 q hq
theorem Zao {l : List Zaw} {q : Nat} (h : l.length - 1 ≤ q) : famW l (945, 0, q) = none := by
  cases e : famW l (945, 0, q) with
  | none => rfl
  | some b =>
    obtain ⟨q', e1, e2, _⟩ := famW_some e
    injection e1 with _ e1
    injection e1 with _ e1
    subst e1; omega
theorem Zax {m : Zak} {s : Mach} {h : Zan} (h1 : h jB = some (macB m s)) (h2 : h jF = some (Zc2 s.stack)) (h3 : h jE = some (evB s.events)) (h4 : h jT = some (regB (topF s).regs)) (h5 : ∀ q, h (945, 0, q) = famW s.stack (945, 0, q)) :
    ∀ j b, mem m s j = some b → h j = some b := mem_sub h1 h2 h3 h4 (fun q hq => by rw [h5 q, Za2 hq])
section
variable {P : Program} {f : FuncId} {m : Zak} {s s' : Mach} {args : List AV} {r : AV} {h : Zan}
abbrev dK : List Dv.Id := jE :: jT :: D32
abbrev dN : List Dv.Id := jN :: jE :: jT :: D32
theorem QH.tnM {L : List Dv.Id} (hB : jB ∈ L) (hF : jF ∈ L) (hc : HG P L f (mem m s) args r (mem m s')) (h32 : s.stack.length ≤ 32) (hsub : ∀ j b, mem m s j = some b → h j = some b) (hag : Zbh (kpH (mem m s)) args = args)
    (hfree : ∀ q, s.stack.length - 1 ≤ q → h (945, 0, q) = none) : QH P h f args dK (mem m s') r := by
  refine QH.frame hc hsub (mem_closed m s) hag (fun i hi => ?_) (fun i hi => ?_) (fun i hi => ?_)
  · cases e : mem m s i with
    | none => rw [e] at hi; cases hi
    | some b =>
      rcases Zb2 e with ⟨rfl, _⟩ | ⟨rfl, _⟩ | ⟨rfl, _⟩ | ⟨rfl, _⟩ | ⟨q, rfl, hq, _⟩
      · exact .inr ⟨hB, rfl, rfl⟩
      · exact .inr ⟨hF, rfl, rfl⟩
      · exact .inl rfl
      · exact .inl rfl
      · exact .inl (Zb6.2 (List.mem_cons_of_mem _ (List.mem_cons_of_mem _ (Zf2.2 ⟨q, by omega, rfl⟩))))
  · cases e : mem m s' i with
    | none => rw [e] at hi; cases hi
    | some b =>
      rcases Zb2 e with ⟨rfl, _⟩ | ⟨rfl, _⟩ | ⟨rfl, _⟩ | ⟨rfl, _⟩ | ⟨q, rfl, hq, _⟩
      · exact .inl rfl
      · exact .inl rfl
      · exact .inl rfl
      · exact .inl rfl
      · by_cases hq2 : q < s.stack.length - 1
        · exact .inl (by rw [Zdu, Za2 hq2]; rfl)
        · exact .inr (hfree q (by omega))
  · rcases List.mem_cons.1 (Zb6.1 hi) with rfl | hi
    · exact .inl rfl
    rcases List.mem_cons.1 hi with rfl | hi
    · exact .inl rfl
    obtain ⟨q, _, rfl⟩ := Zf2.1 hi
    by_cases hq2 : q < s.stack.length - 1
    · exact .inl (by rw [Zdu, Za2 hq2]; rfl)
    · exact .inr (hfree q (by omega))
def macX (F : Dv.Id) (m : Zak) (s : Mach) : List AV := .rs F 5 0 s.stack.length :: (macC m s).drop 1
def memN (m : Zak) (s : Mach) : Zan := orH (Zaz [(jB, .row false 22 1 (fun _ => macX jN m s)), (jN, Zc2 s.stack), (jE, evB s.events), (jT, regB (topF s).regs)]) (famW s.stack)
theorem memN_some {j : Dv.Id} {b : Zam} (h : memN m s j = some b) : (j = jB ∧ b = .row false 22 1 (fun _ => macX jN m s)) ∨ (j = jN ∧ b = Zc2 s.stack) ∨ (j = jE ∧ b = evB s.events) ∨ (j = jT ∧ b = regB (topF s).regs) ∨
    ∃ q, j = (945, 0, q) ∧ q < s.stack.length - 1 ∧ b = regB (s.stack.getD q default).regs := by
  rcases orH_some h with e | ⟨_, e⟩
  · simp only [Zaz] at e
    cases e1 : idEq jB j with
    | true => rw [e1] at e; exact .inl ⟨(Za3.1 e1).symm, (Option.some.inj e).symm⟩
    | false =>
      cases e2 : idEq jN j with
      | true => rw [e1, e2] at e; exact .inr (.inl ⟨(Za3.1 e2).symm, (Option.some.inj e).symm⟩)
      | false =>
        cases e3 : idEq jE j with
        | true => rw [e1, e2, e3] at e; exact .inr (.inr (.inl ⟨(Za3.1 e3).symm, (Option.some.inj e).symm⟩))
        | false =>
          cases e4 : idEq jT j with
          | true => rw [e1, e2, e3, e4] at e; exact .inr (.inr (.inr (.inl ⟨(Za3.1 e4).symm, (Option.some.inj e).symm⟩)))
          | false => rw [e1, e2, e3, e4] at e; cases e
  · exact .inr (.inr (.inr (.inr (famW_some e))))
theorem memN_closed (m : Zak) (s : Mach) : ∀ j b, memN m s j = some b → Dv.mapB (kpH (memN m s)) b = b := by
  intro j b h
  have kp : ∀ i, (memN m s i).isSome = true → kpH (memN m s) i = some i := fun i hi => by
    unfold kpH; cases e : memN m s i with
    | none => rw [e] at hi; cases hi
    | some b => rfl
  rcases memN_some h with ⟨rfl, rfl⟩ | ⟨rfl, rfl⟩ | ⟨rfl, rfl⟩ | ⟨rfl, rfl⟩ | ⟨q, rfl, hq, rfl⟩
  · rfl
  · show Zam.row false 5 s.stack.length (fun q => Zbh (kpH (memN m s)) (frC s.stack q)) = Zam.row false 5 s.stack.length (frC s.stack)
    congr 1
    funext q
    show [_, _, _, Zbd _ (Zbc s.stack q), _] = _
    unfold frC
    congr 4
    unfold Zbc
    by_cases hq : q < s.stack.length - 1
    · rw [Zcx hq]
      show (match kpH (memN m s) (945, 0, q) with | some j => AV.rs j 1 0 _ | none => .any) = _
      rw [kp _ (by show (famW s.stack (945, 0, q)).isSome = true; rw [Za2 hq]; rfl)]
    · rw [Zdk (by omega)]; rfl
  · rfl
  · rfl
  · rfl
theorem QH.ddM {L : List Dv.Id} (hB : jB ∈ L) (hc : HG P L f (memN m s) args r (mem m s')) (h32 : s.stack.length ≤ 32) (hsub : ∀ j b, memN m s j = some b → h j = some b) (hag : Zbh (kpH (memN m s)) args = args) (hjF : h jF = none)
    (hfree : ∀ q, s.stack.length - 1 ≤ q → h (945, 0, q) = none) : QH P h f args dN (mem m s') r := by
  have fam : ∀ q, memN m s (945, 0, q) = famW s.stack (945, 0, q) := fun q => rfl
  refine QH.frame hc hsub (memN_closed m s) hag (fun i hi => ?_) (fun i hi => ?_) (fun i hi => ?_)
  · cases e : memN m s i with
    | none => rw [e] at hi; cases hi
    | some b =>
      rcases memN_some e with ⟨rfl, _⟩ | ⟨rfl, _⟩ | ⟨rfl, _⟩ | ⟨rfl, _⟩ | ⟨q, rfl, hq, _⟩
      · exact .inr ⟨hB, rfl, rfl⟩
      · exact .inl rfl
      · exact .inl rfl
      · exact .inl rfl
      · exact .inl (Zb6.2 (List.mem_cons_of_mem _ (List.mem_cons_of_mem _ (List.mem_cons_of_mem _ (Zf2.2 ⟨q, by omega, rfl⟩)))))
  · cases e : mem m s' i with
    | none => rw [e] at hi; cases hi
    | some b =>
      rcases Zb2 e with ⟨rfl, _⟩ | ⟨rfl, _⟩ | ⟨rfl, _⟩ | ⟨rfl, _⟩ | ⟨q, rfl, hq, _⟩
      · exact .inl rfl
      · exact .inr hjF
      · exact .inl rfl
      · exact .inl rfl
      · by_cases hq2 : q < s.stack.length - 1
        · exact .inl (by rw [fam, Za2 hq2]; rfl)
        · exact .inr (hfree q (by omega))
  · rcases List.mem_cons.1 (Zb6.1 hi) with rfl | hi
    · exact .inl rfl
    rcases List.mem_cons.1 hi with rfl | hi
    · exact .inl rfl
    rcases List.mem_cons.1 hi with rfl | hi
    · exact .inl rfl
    obtain ⟨q, _, rfl⟩ := Zf2.1 hi
    by_cases hq2 : q < s.stack.length - 1
    · exact .inl (by rw [fam, Za2 hq2]; rfl)
    · exact .inr (hfree q (by omega))
end
theorem GV_reg {src : Dv.Id → Option Dv.Id} {h h' : Zan} {l : List Zaw} {q : Nat} (hq : q < l.length) (hs : ∀ q, q < l.length - 1 → src (945, 0, q) = some (945, 0, q)) (ht : src jT = some jT) (hf : ∀ q, q < l.length - 1 → (h' (945, 0, q)).isSome = true) (hT : (h' jT).isSome = true) : GV src h h' (Zbc l q) (Zbc l q) := by
  unfold Zbc
  by_cases e : q < l.length - 1
  · cases e1 : h' (945, 0, q) with
    | none => have := hf q e; rw [e1] at this; cases this
    | some b => exact .cc (Zcx e) (Zcx e) (.rs e1 (hs q e) rfl rfl)
  · cases e1 : h' jT with
    | none => rw [e1] at hT; cases hT
    | some b => exact .cc (Zdk (by omega)) (Zdk (by omega)) (.rs e1 ht rfl rfl)
theorem GB_fr {src : Dv.Id → Option Dv.Id} {h h' : Zan} {l : List Zaw} (hs : ∀ q, q < l.length - 1 → src (945, 0, q) = some (945, 0, q)) (ht : src jT = some jT) (hf : ∀ q, q < l.length - 1 → (h' (945, 0, q)).isSome = true) (hT : (h' jT).isSome = true) : GB src h h' (Zc2 l) (Zc2 l) :=
  GB.row (Nat.le_refl _) (fun q hq => .cons (.imm rfl) (.cons (.imm rfl) (.cons (.imm rfl) (.cons (GV_reg hq hs ht hf hT) (.cons (.imm rfl) .nil))))) (fun e => by cases e)
theorem Zbs {src : Dv.Id → Option Dv.Id} {h h' : Zan} (l : List Int) : GB src h h' (regB l) (regB l) := GB.rowI (Nat.le_refl _) (fun q hq => ⟨rfl, rfl⟩)
theorem Zd7 {src : Dv.Id → Option Dv.Id} {h h' : Zan} (l : List Int) : GB src h h' (evB l) (evB l) := GB.rowI (Nat.le_refl _) (fun q hq => ⟨rfl, rfl⟩)
theorem Zft {src : Dv.Id → Option Dv.Id} {h h' : Zan} {l : List Zaw} (hs : ∀ q, q < l.length - 1 → src (945, 0, q) = some (945, 0, q)) (hh : ∀ q, q < l.length - 1 → h (945, 0, q) = some (regB (l.getD q default).regs)) : ∀ j b, famW l j = some b → HOk src h h' j b := fun j b e => by
  obtain ⟨q, rfl, hq, rfl⟩ := famW_some e
  exact HOk.mk (hs q hq) (hh q hq) (Zbs _)
end Go.Proofs.YtoelbgjpmpoolaaGreat
namespace Go.Proofs.YtoelbgjpmpoolaaGreat
open Go Dv
set_option maxRecDepth 10000
set_option linter.unusedSimpArgs false
theorem Zfb (m : Zak) (s : Mach) (h : 0 < s.stack.length) (hl : s.stack.length ≤ 1000) : HG Tryz.prog (LW) 111 (mem m s) [.bp jB 0] (.rp jF 5 (s.stack.length - 1) 0) (mem m s) := by
  refine HG_intro tok Tryz.func111 rfl (by decide +kernel) (Nat.le_of_ble_eq_true rfl) ?_
  have hmx : maxL = 4294967296 := rfl
  ((repeat' first | refine Zac ?_ | (refine Zab tok (by rfl) ?_; conv => whnf) | (refine Zap tok mix (by rfl) ?_; conv => whnf) | (refine Zaj ?_; conv => whnf) | (refine @And.intro (Zaa _ _ _ _) _ ?_ ?_; rotate_left; (conv => whnf); rotate_right)); all_goals (try ((guard_target = Zaa _ _ _ _); refine Zae ?_; (all_goals (try simp only [Zaa, kzz, kz11, kz12, maxL, Zad] at *)); (all_goals (try (simp (disch := omega) only [Zal]))); all_goals omega)))
  refine ⟨_, rfl, rfl, ?_⟩
  show AV.rp jF 5 (0 + (IntKind.i64.wrap ((s.stack.length : Int) - 1)).toNat) 0 = _
  rw [Zal (by omega) (by omega)]
  congr 1; omega
theorem Zcs {m : Zak} {s' : Mach} : ∀ i ∈ LW, Zeb i = true → (mem m s' i).isSome = true ∧ srcL [] i = some i := fun i hi _ => by
  rcases List.mem_cons.1 hi with rfl | hi
  · exact ⟨rfl, rfl⟩
  · rw [List.mem_singleton.1 hi]; exact ⟨rfl, rfl⟩
theorem Zdg {m : Zak} {s s' : Mach} {h : Zan} (hst : s'.stack = s.stack) (hev : s'.events = s.events) {b0 : Zam} (h1 : h jB = some b0) (hB : GB (srcL []) h (mem m s') b0 (macB m s')) (h2 : h jF = some (Zc2 s.stack)) (h3 : h jE = some (evB s.events)) (h4 : h jT = some (regB (topF s).regs)) (h5 : ∀ q, q < s.stack.length - 1 → h (945, 0, q) = some (regB (s.stack.getD q default).regs)) :
    (∀ j j' i, (mem m s' j).isSome = true → (mem m s' j').isSome = true → srcL [] j = some i → srcL [] j' = some i → j = j') ∧ ∀ j b, mem m s' j = some b → HOk (srcL []) h (mem m s') j b := by
  have ht : topF s' = topF s := by unfold topF; rw [hst]
  refine ⟨fun j j' i _ _ e1 e2 => by cases e1; cases e2; rfl, fun j b e => ?_⟩
  rcases Zb2 e with ⟨rfl, rfl⟩ | ⟨rfl, rfl⟩ | ⟨rfl, rfl⟩ | ⟨rfl, rfl⟩ | ⟨q, rfl, hq, rfl⟩
  · exact HOk.mk rfl h1 hB
  · refine HOk.mk rfl h2 ?_
    rw [← hst]
    exact GB_fr (fun _ _ => rfl) rfl (fun q hq => by rw [Zdu, Za2 hq]; rfl) rfl
  · refine HOk.mk rfl h3 ?_
    rw [hev]; exact Zd7 _
  · refine HOk.mk rfl h4 ?_
    rw [ht]; exact Zbs _
  · refine HOk.mk rfl (h5 q (by rw [← hst]; exact hq)) ?_
    rw [hst]; exact Zbs _
theorem Zcc {m : Zak} {s : Mach} {h h' : Zan} {b : Zam} {b' : Zam} {imm : Bool} {f : Nat → List AV} (hf : f 0 = macC m s) (hF : h' jF = some b) (hE : h' jE = some b') : GB (srcL []) h h' (.row imm 22 1 f) (macB m s) :=
  GB.one (by
    rw [hf]
    exact .cons (.rs hF rfl rfl rfl) (.cons (.imm rfl) (.cons (.imm rfl) (.cons (.imm rfl) (.cons (.imm rfl) (.cons (.imm rfl) (.cons (.imm rfl) (.cons (.imm rfl) (.cons (.imm rfl) (.cons (.imm rfl) (.cons (.imm rfl) (.cons (.imm rfl) (.cons (.imm rfl) (.cons (.imm rfl) (.cons (.imm rfl) (.cons (.imm rfl) (.cons (.imm rfl) (.cons (.imm rfl) (.cons (.rs hE rfl rfl rfl) (.cons (.imm rfl) (.cons (.imm rfl) (.cons (.imm rfl) .nil)))))))))))))))))))))) (fun e => by cases e)
theorem Za9 {m : Zak} {s : Mach} {d : List Dv.Id} {h : Zan} {q : Nat} (hq : q < s.stack.length - 1) : bigH d (mem m s) h (945, 0, q) = some (regB (s.stack.getD q default).regs) := by
  unfold bigH; rw [Zdu, Za2 hq]
theorem Zda (m : Zak) (s : Mach) (i : Nat) (hi : i < s.stack.length) (hF : OkF m (s.stack.getD i default)) : HG Tryz.prog (LW) 112 (mem m s) [.bp jB 0, .rp jF 5 i 0] (.agg (Zbl (Zau m (s.stack.getD i default)))) (mem m s) := by
  refine Za6 tok Tryz.func112 rfl (by decide +kernel) (Nat.le_of_ble_eq_true rfl) ?_
  have hmx : maxL = 4294967296 := rfl
  have f0 := hF.f0
  have f1 := hF.f1
  have b0 := hF.b0
  have b1 : (s.stack.getD i default).block < (m.funcs.getD (s.stack.getD i default).f.toNat default).blocks.length := hF.b1
  ((repeat' first | refine Zac ?_ | (refine Zab tok (by rfl) ?_; conv => whnf) | (refine Zap tok mix (by rfl) ?_; conv => whnf) | (refine Zaj ?_; conv => whnf) | (refine @And.intro (Zaa _ _ _ _) _ ?_ ?_; rotate_left; (conv => whnf); rotate_right)); all_goals (try ((guard_target = Zaa _ _ _ _); refine Zae ?_; (all_goals (try simp only [Zaa, kzz, kz11, kz12, maxL, Zad] at *)); all_goals omega)))
  refine ⟨_, srcL [], rfl, ?_⟩
  rw [← and_assoc]
  exact ⟨Zdg rfl rfl rfl (Zcc rfl rfl rfl) rfl rfl rfl (fun q hq => Za2 hq), .agg (GVs.imm rfl), Zcs⟩
theorem c_mEnd (m : Zak) (s : Mach) (how w : Int) : HG Tryz.prog (LW) 155 (mem m s) [.bp jB 0, iv how, .int .u16 w] (.tup []) (mem m (endM s how w)) := by
  refine Za6 tok Tryz.func155 rfl (by decide +kernel) (Nat.le_of_ble_eq_true rfl) ?_
  (repeat' (refine Zab tok (by rfl) ?_; conv => whnf))
  refine ⟨_, srcL [], rfl, ?_⟩
  rw [← and_assoc]
  exact ⟨Zdg (s := s) rfl rfl rfl (Zcc (s := endM s how w) rfl rfl rfl) rfl rfl rfl (fun q hq => Za2 hq), .tup .nil, Zcs⟩
end Go.Proofs.YtoelbgjpmpoolaaGreat
namespace Go.Proofs.YtoelbgjpmpoolaaGreat
open Go Dv
set_option maxRecDepth 10000
set_option linter.unusedSimpArgs false
theorem pop_getD {s : Mach} {q : Nat} (h : q < s.stack.length - 1) : (popM s).stack.getD q default = s.stack.getD q default := Zbw _ h
theorem c_mPop (m : Zak) (s : Mach) (h : 0 < s.stack.length) (hl : s.stack.length ≤ 1000) : HG Tryz.prog LW 157 (mem m s) [.bp jB 0] (.tup []) (mem m (popM s)) := by
  refine Za6 tok Tryz.func157 rfl (by decide +kernel) (Nat.le_of_ble_eq_true rfl) ?_
  have hmx : maxL = 4294967296 := rfl
  have hpl := Zcz (s := s)
  have hq : (IntKind.i64.wrap ((s.stack.length : Int) - 1)).toNat = s.stack.length - 1 := by rw [Zal (by omega) (by omega)]; omega
  ((repeat' first | (refine Zap tok mix (by rfl) ?_; conv => whnf) | (refine @And.intro (Zaa _ _ _ _) _ ?_ ?_; rotate_left; (conv => whnf); rotate_right)); all_goals (try ((guard_target = Zaa _ _ _ _); refine Zae ?_; (all_goals (try simp only [Zaa, kzz, kz11, kz12, maxL, Zad] at *)); (all_goals (try (simp (disch := omega) only [Zal]))); all_goals omega)))
  by_cases h1 : s.stack.length = 1
  · refine ⟨_, srcL [(jT, none)], rfl, Zex rfl (fun i hi => by cases hi), fun j b e => ?_, .tup .nil, fun i hi hp => ?_⟩
    · rcases Zb2 e with ⟨rfl, rfl⟩ | ⟨rfl, rfl⟩ | ⟨rfl, rfl⟩ | ⟨rfl, rfl⟩ | ⟨q, rfl, hq2, rfl⟩
      · refine HOk.mk rfl rfl (GB.one ?_ (fun e => by cases e))
        refine .cons (.rs rfl rfl rfl ?_) (.cons (.imm rfl) (.cons (.imm rfl) (.cons (.imm rfl) (.cons (.imm rfl) (.cons (.imm rfl) (.cons (.imm rfl) (.cons (.imm rfl) (.cons (.imm rfl) (.cons (.imm rfl) (.cons (.imm rfl) (.cons (.imm rfl) (.cons (.imm rfl) (.cons (.imm rfl) (.cons (.imm rfl) (.cons (.imm rfl) (.cons (.imm rfl) (.cons (.imm rfl) (.cons (.rs rfl rfl rfl rfl) (.cons (.imm rfl) (.cons (.imm rfl) (.cons (.imm rfl) .nil)))))))))))))))))))))
        rw [hq, hpl]; simp
      · refine HOk.mk rfl rfl ?_
        exact GB.row (by rw [hpl]; exact Nat.sub_le _ _) (fun q hq2 => by omega) (fun e => by cases e)
      · exact HOk.mk rfl rfl (Zd7 _)
      · refine ⟨true, 1, fun x => [.int .u16 (([] : List Int).getD x 0)], ?_⟩
        have : (topF (popM s)).regs = [] := by
          unfold topF
          rw [List.getD_eq_getElem?_getD, List.getElem?_eq_none (by omega)]; rfl
        rw [this]; rfl
      · omega
    · first | (rcases List.mem_cons.1 hi with rfl | hi; exact ⟨rfl, rfl⟩; rw [List.mem_singleton.1 hi]; exact ⟨rfl, rfl⟩)
  · have h2 : s.stack.length - 2 < s.stack.length - 1 := by omega
    have htop : topF (popM s) = s.stack.getD (s.stack.length - 2) default := by
      unfold topF; rw [Zcz]; show (s.stack.take (s.stack.length - 1)).getD (s.stack.length - 1 - 1) default = _
      rw [Zbw _ (by omega)]; rfl
    refine ⟨_, srcL [(jT, some (945, 0, s.stack.length - 2))], rfl, Zex rfl (fun i hi => ?_), fun j b e => ?_, .tup .nil, fun i hi hp => ?_⟩
    · rw [List.mem_singleton.1 (show i ∈ [(945, 0, s.stack.length - 2)] from hi)]
      exact .inl (Zao (by rw [hpl]; omega))
    · rcases Zb2 e with ⟨rfl, rfl⟩ | ⟨rfl, rfl⟩ | ⟨rfl, rfl⟩ | ⟨rfl, rfl⟩ | ⟨q, rfl, hq2, rfl⟩
      · refine HOk.mk rfl rfl (GB.one ?_ (fun e => by cases e))
        refine .cons (.rs rfl rfl rfl ?_) (.cons (.imm rfl) (.cons (.imm rfl) (.cons (.imm rfl) (.cons (.imm rfl) (.cons (.imm rfl) (.cons (.imm rfl) (.cons (.imm rfl) (.cons (.imm rfl) (.cons (.imm rfl) (.cons (.imm rfl) (.cons (.imm rfl) (.cons (.imm rfl) (.cons (.imm rfl) (.cons (.imm rfl) (.cons (.imm rfl) (.cons (.imm rfl) (.cons (.imm rfl) (.cons (.rs rfl rfl rfl rfl) (.cons (.imm rfl) (.cons (.imm rfl) (.cons (.imm rfl) .nil)))))))))))))))))))))
        rw [hq, hpl]; simp
      · refine HOk.mk rfl rfl ?_
        refine GB.row (by rw [hpl]; exact Nat.sub_le _ _) (fun q hq2 => ?_) (fun e => by cases e)
        rw [hpl] at hq2
        show GVs _ _ _ (frC s.stack q) (frC (popM s).stack q)
        unfold frC
        rw [pop_getD hq2]
        refine .cons (.imm rfl) (.cons (.imm rfl) (.cons (.imm rfl) (.cons ?_ (.cons (.imm rfl) .nil))))
        unfold Zbc
        rw [pop_getD hq2]
        by_cases e : q < s.stack.length - 2
        · exact .cc (Zcx hq2) (Zcx (by rw [hpl]; omega)) (.rs ((Zdu (m := m) (s := popM s)).trans (Za2 (by rw [hpl]; omega))) rfl rfl rfl)
        · have : q = s.stack.length - 2 := by omega
          subst this
          exact .cc (Zcx hq2) (Zdk (by rw [hpl]; omega)) (.rs rfl rfl rfl rfl)
      · exact HOk.mk rfl rfl (Zd7 _)
      · refine HOk.mk rfl (Za2 (l := s.stack) h2) ?_
        rw [htop]; exact Zbs _
      · rw [hpl] at hq2
        refine HOk.mk rfl (Za2 (l := s.stack) (show q < s.stack.length - 1 by omega)) ?_
        rw [pop_getD (by omega)]; exact Zbs _
    · first | (rcases List.mem_cons.1 hi with rfl | hi; exact ⟨rfl, rfl⟩; rw [List.mem_singleton.1 hi]; exact ⟨rfl, rfl⟩)
end Go.Proofs.YtoelbgjpmpoolaaGreat
namespace Go.Proofs.YtoelbgjpmpoolaaGreat
open Go Dv
set_option maxRecDepth 10000
set_option linter.unusedSimpArgs false
def padV (m : Zak) (f : Zaw) : Int × Pad × Bool := if endB m f = true ∧ (Zau m f).fin.kind = 4 then ((Zau m f).fin.pad, padF m f, true) else (0, ⟨0, [], false, false⟩, false)
set_option maxHeartbeats 2000000 in
theorem c_mPad (m : Zak) (s : Mach) (i : Nat) (hi : i < s.stack.length) (h32 : s.stack.length ≤ 32) (hF : OkF m (s.stack.getD i default)) (hp : (Zau m (s.stack.getD i default)).fin.kind = 4 → 0 ≤ (Zau m (s.stack.getD i default)).fin.pad ∧ (Zau m (s.stack.getD i default)).fin.pad < (Zcl m (s.stack.getD i default)).blocks.length) :
    HG Tryz.prog (LW) 161 (mem m s) [.bp jB 0, .rp jF 5 i 0] (.tup [iv (padV m (s.stack.getD i default)).1, .agg (encPad (padV m (s.stack.getD i default)).2.1), .bool (padV m (s.stack.getD i default)).2.2]) (mem m s) := by
  refine Za6 tok Tryz.func161 rfl (by decide +kernel) (Nat.le_of_ble_eq_true rfl) ?_
  have hmx : maxL = 4294967296 := rfl
  have hB := Zda m s i hi hF
  have f0 := hF.f0
  have f1 := hF.f1
  have a0 := hF.a0
  have a1 := hF.a1
  have hE : endB m (s.stack.getD i default) = decide ((s.stack.getD i default).at_ = (Zau m (s.stack.getD i default)).ins.length) := rfl
  have hpl : (Zau m (s.stack.getD i default)).fin.kind = 4 → 0 ≤ (Zau m (s.stack.getD i default)).fin.pad ∧ (Zau m (s.stack.getD i default)).fin.pad < (m.funcs.getD (s.stack.getD i default).f.toNat default).blocks.length := hp
  have hpf : padF m (s.stack.getD i default) = ((m.funcs.getD (s.stack.getD i default).f.toNat default).blocks.getD (Zau m (s.stack.getD i default)).fin.pad.toNat default).pad := rfl
  have hV : padV m (s.stack.getD i default) = if endB m (s.stack.getD i default) = true ∧ (Zau m (s.stack.getD i default)).fin.kind = 4 then ((Zau m (s.stack.getD i default)).fin.pad, padF m (s.stack.getD i default), true) else (0, ⟨0, [], false, false⟩, false) := rfl
  have hgen : ∃ b, Zau m (s.stack.getD i default) = b := ⟨_, rfl⟩
  obtain ⟨b, hbe⟩ := hgen
  rw [hbe] at hB hE hpl hpf hV a1
  (repeat' first | refine Zac ?_ | (refine Zab tok (by rfl) ?_; conv => whnf))
  refine .inr ⟨_, _, _, uG (QH.tnM (by simp) (by simp) hB h32 (Zax rfl rfl rfl rfl (fun _ => rfl)) rfl (fun q hq => Zao hq)), ?_⟩
  conv => whnf
  ((repeat' ((fail_if_success (show AWp _ _ _ (Code.region 3 _ _) _ _)); (fail_if_success (show AWp _ _ _ (Code.region 4 _ _) _ _)); first | refine Zac ?_ | (refine Zap tok mix (by rfl) ?_; conv => whnf) | (refine Zag ?_; conv => whnf) | refine Zaf rfl (fun hb => ?_) (fun hb => ?_) | (refine @And.intro (Zaa _ _ _ _) _ ?_ ?_; rotate_left; (conv => whnf); rotate_right))); all_goals (try ((guard_target = Zaa _ _ _ _); refine Zae ?_; (all_goals (try simp only [Zaa, kzz, kz11, kz12, maxL, Zad] at *)); all_goals omega)))
  · have hn : ¬ (endB m (s.stack.getD i default) = true ∧ b.fin.kind = 4) := by
      rintro ⟨h1, h2⟩
      rw [hE, decide_eq_true_eq] at h1
      rw [decide_eq_false (show ¬ (s.stack.getD i default).at_ < (b.ins.length : Int) by omega), decide_eq_true h2] at hb
      cases hb
    rw [if_neg hn] at hV
    rw [hV]
    (repeat' first | (refine Zab tok (by rfl) ?_; conv => whnf) | (refine Zaj ?_; conv => whnf))
    refine ⟨_, srcL [], rfl, ?_⟩
    rw [← and_assoc]
    exact ⟨Zdg rfl rfl rfl (Zcc rfl rfl rfl) rfl rfl rfl (fun q hq => Za9 hq), .tup (.cons (.imm rfl) (.cons (.agg (.cons (.imm rfl) (.cons (.wk rfl (.nsl rfl)) (.cons (.imm rfl) (.cons (.imm rfl) .nil))))) (.cons (.imm rfl) .nil))), Zcs⟩
  have hy : endB m (s.stack.getD i default) = true ∧ b.fin.kind = 4 := by
    rw [hE, decide_eq_true_eq]
    by_cases e1 : (s.stack.getD i default).at_ < (b.ins.length : Int)
    · rw [decide_eq_true e1] at hb; cases hb
    · rw [decide_eq_false e1] at hb
      by_cases e2 : b.fin.kind = 4
      · exact ⟨by omega, e2⟩
      · rw [decide_eq_false e2] at hb; cases hb
  clear hb
  rw [if_pos hy] at hV
  rw [hV]
  obtain ⟨hp0, hp1⟩ := hpl hy.2
  ((repeat' first | (refine Zap tok mix (by rfl) ?_; conv => whnf) | (refine Zaj ?_; conv => whnf) | (refine @And.intro (Zaa _ _ _ _) _ ?_ ?_; rotate_left; (conv => whnf); rotate_right)); all_goals (try ((guard_target = Zaa _ _ _ _); refine Zae ?_; (all_goals (try simp only [Zaa, kzz, kz11, kz12, maxL, Zad] at *)); all_goals omega)))
  refine ⟨_, srcL [], rfl, ?_⟩
  rw [← and_assoc]
  rw [hpf]
  exact ⟨Zdg rfl rfl rfl (Zcc rfl rfl rfl) rfl rfl rfl (fun q hq => Za9 hq), .tup (.cons (.imm rfl) (.cons (.agg (GVs.imm rfl)) (.cons (.imm rfl) .nil))), Zcs⟩
end Go.Proofs.YtoelbgjpmpoolaaGreat
namespace Go.Proofs.YtoelbgjpmpoolaaGreat
open Go Dv
set_option maxRecDepth 10000
set_option linter.unusedSimpArgs false
theorem Zd6 {src : Dv.Id → Option Dv.Id} {m : Zak} {s : Mach} {h h' : Zan} {imm : Bool} {f : Nat → List AV} (hf : f 0 = macC m s) (sF : src jF = some jF) (sE : src jE = some jE) (hF : (h' jF).isSome = true) (hE : (h' jE).isSome = true) : GB src h h' (.row imm 22 1 f) (macB m s) := by
  cases e1 : h' jF with
  | none => rw [e1] at hF; cases hF
  | some b1 =>
    cases e2 : h' jE with
    | none => rw [e2] at hE; cases hE
    | some b2 =>
      refine GB.one ?_ (fun e => by cases e)
      rw [hf]
      exact (.cons (.rs e1 sF rfl rfl) (.cons (.imm rfl) (.cons (.imm rfl) (.cons (.imm rfl) (.cons (.imm rfl) (.cons (.imm rfl) (.cons (.imm rfl) (.cons (.imm rfl) (.cons (.imm rfl) (.cons (.imm rfl) (.cons (.imm rfl) (.cons (.imm rfl) (.cons (.imm rfl) (.cons (.imm rfl) (.cons (.imm rfl) (.cons (.imm rfl) (.cons (.imm rfl) (.cons (.imm rfl) (.cons (.rs e2 sE rfl rfl) (.cons (.imm rfl) (.cons (.imm rfl) (.cons (.imm rfl) .nil))))))))))))))))))))))
theorem Zci {src : Dv.Id → Option Dv.Id} {m : Zak} {s : Mach} {h h' : Zan} (sB : src jB = some jB) (sF : src jF = some jF) (sE : src jE = some jE) (sT : src jT = some jT) (sW : ∀ q, src (945, 0, q) = some (945, 0, q)) (h1 : h jB = some (macB m s)) (h2 : h jF = some (Zc2 s.stack)) (h3 : h jE = some (evB s.events)) (h4 : h jT = some (regB (topF s).regs))
    (k2 : (h' jF).isSome = true) (k3 : (h' jE).isSome = true) (k4 : (h' jT).isSome = true) (k5 : ∀ q, q < s.stack.length - 1 → (h' (945, 0, q)).isSome = true) : HLs src h h' (memL m s) :=
  .old sB h1 (Zd6 rfl sF sE k2 k3) (.old sF h2 (GB_fr (fun q _ => sW q) sT k5 k4) (.old sE h3 (Zd7 _) (.old sT h4 (Zbs _) .nil)))
theorem Zcm {l : List Zaw} {q : Nat} (hq : q < l.length - 1) : (famW l (945, 0, q)).isSome = true := by rw [Za2 hq]; rfl
theorem map_regAV {ρ : Dv.Id → Option Dv.Id} {l : List Zaw} (h1 : ∀ q, ρ (945, 0, q) = some (945, 0, q)) (h2 : ρ jT = some jT) (q : Nat) : Zbd ρ (Zbc l q) = Zbc l q := by
  unfold Zbc
  cases Nat.blt q (l.length - 1) with
  | true => show (match ρ (945, 0, q) with | some j => AV.rs j 1 0 _ | none => .any) = _; rw [h1]; rfl
  | false => show (match ρ jT with | some j => AV.rs j 1 0 _ | none => .any) = _; rw [h2]; rfl
theorem map_fr {ρ : Dv.Id → Option Dv.Id} {l : List Zaw} (h1 : ∀ q, ρ (945, 0, q) = some (945, 0, q)) (h2 : ρ jT = some jT) : Dv.mapB ρ (Zc2 l) = Zc2 l := by
  show Zam.row false 5 l.length (fun q => Zbh ρ (frC l q)) = Zam.row false 5 l.length (frC l)
  congr 1
  funext q
  show [_, _, _, Zbd ρ (Zbc l q), _] = _
  rw [map_regAV h1 h2]; rfl
theorem killH_fam {h : Zan} {i : Dv.Id} {q : Nat} {l : List Int} (hi : idEq i (945, 0, q) = false) (e : h (945, 0, q) = some (regB l)) : killH i h (945, 0, q) = some (regB l) := by
  unfold killH; rw [hi, e]; rfl
theorem Zev {d : List Dv.Id} {u h : Zan} {q : Nat} {l : List Int} (hu : u (945, 0, q) = none) (hd : memI (945, 0, q) d = false) (e : h (945, 0, q) = some (regB l)) : bigH d u h (945, 0, q) = some (regB l) := by
  unfold bigH; rw [hu, hd, e]
  cases d <;> rfl
theorem Zbb {s : Mach} (h : 0 < s.stack.length) {q : Nat} (hq : q = s.stack.length - 1) : Zbc s.stack q = .rs jT 1 0 (topF s).regs.length := by
  subst hq; unfold Zbc; rw [Zdk (Nat.le_refl _)]; rfl
set_option maxHeartbeats 4000000 in
theorem c_mCall (m : Zak) (s : Mach) (n : Int) (places : List Int) (hr : Zbg m = true) (h : 0 < s.stack.length) (h32 : s.stack.length ≤ 32) (h0 : 0 ≤ n) (h1 : n < m.funcs.length) (hp : (places.length : Int) = (m.funcs.getD n.toNat default).params)
    (hpl : ∀ p ∈ places, 0 ≤ p ∧ p < (topF s).regs.length) : HG Tryz.prog [jB] 116 (mem m s) [.bp jB 0, iv n, ints places] (.tup []) (mem m (Zcq m s n places)) := by
  refine Za6 tok Tryz.func116 rfl (by decide +kernel) (Nat.le_of_ble_eq_true rfl) ?_
  have hmx : maxL = 4294967296 := rfl
  have hT := Zfb m s h (by omega)
  have hp8 : places.length ≤ 8 := by
    have := (okF_funP (Zey hr (show n.toNat < m.funcs.length by omega))).2.1
    omega
  (repeat' ((fail_if_success (show AWp _ _ _ (Code.region 1 _ _) _ _)); (fail_if_success (show AWp _ _ _ (Code.region 2 _ _) _ _)); first | refine Zac ?_ | (refine Zab tok (by rfl) ?_; conv => whnf) | (refine Zag ?_; conv => whnf) | refine Zaf rfl (fun hb => ?_) (fun hb => ?_)))
  · have h32' : 32 ≤ s.stack.length := by simp only [decide_eq_true_eq] at hb; omega
    clear hb
    rw [show Zcq m s n places = endM s 5 0 from if_pos h32']
    (repeat' (refine Zab tok (by rfl) ?_; conv => whnf))
    refine .inr ⟨_, _, _, uG (QH.tnM (by simp) (by simp) (c_mEnd m s 5 0) h32 (Zax rfl rfl rfl rfl (fun _ => rfl)) rfl (fun q hq => Zao hq)), ?_⟩
    conv => whnf
    (repeat' (refine Zaj ?_; conv => whnf))
    refine ⟨_, srcL [], rfl, ?_⟩
    rw [← and_assoc]
    refine ⟨Zdg (s := endM s 5 0) rfl rfl rfl (Zcc rfl rfl rfl) rfl rfl rfl (fun q hq => Za9 (s := endM s 5 0) hq), .tup .nil, fun i hi _ => ?_⟩
    rw [List.mem_singleton.1 hi]; exact ⟨rfl, rfl⟩
  have h32' : ¬ 32 ≤ s.stack.length := by simp only [decide_eq_false_iff_not] at hb; omega
  clear hb
  have hcm : Zcq m s n places = { s with stack := s.stack ++ [frN m n (Zc7 (topF s) places)] } := if_neg h32'
  (repeat' ((fail_if_success (show AWp _ _ _ (Code.region 4 _ _) _ _)); first | refine Zac ?_ | (refine Zab tok (by rfl) ?_; conv => whnf) | refine Zai ?_))
  refine Zay (fun j : Nat => mkF [(0, .bp jB 0), (1, iv n), (2, ints places), (6, .rs (101, 0, 0) 1 0 j), (20, ints places), (21, iv places.length), (22, iv j)] ([((101, 0, 0), .row true 1 j (fun q => [.int .u16 ((Zc7 (topF s) places).getD q 0)]))] ++ memL m s) (famW s.stack)) (fun j => j ≤ places.length) (fun j => places.length - j) 0 (Nat.zero_le _) ?_ ?_
  · refine Weak.fam (L := [jB]) (tl := [(0, .bp jB 0), (1, iv n), (2, ints places), (6, .rs (101, 0, 0) 1 0 0), (20, ints places), (21, iv places.length), (22, iv 0)]) (hl := [((101, 0, 0), .row true 1 0 (fun q => [.int .u16 ((Zc7 (topF s) places).getD q 0)]))] ++ memL m s) (F := famW s.stack) [((101, 0, 0), none)] rfl (fun c hc => by cases hc) ?_ ?_ ?_ (fun i hi _ => by rw [List.mem_singleton.1 hi]; exact ⟨rfl, rfl⟩)
    · exact .cons (.bp rfl rfl) (.cons (.imm rfl) (.cons (.imm rfl) (.cons (.nil rfl rfl rfl) (.cons (.imm rfl) (.cons (.imm rfl) (.cons (.imm rfl) .nil))))))
    · exact .new rfl (Zci rfl rfl rfl rfl (fun _ => rfl) rfl rfl rfl rfl rfl rfl rfl (fun q hq => Zcm hq))
    · exact Zft (fun _ _ => rfl) (fun q hq => Za2 hq)
  intro j hj
  (repeat' ((fail_if_success (show AWp _ _ _ (Code.region 5 _ _) _ _)); (fail_if_success (show AWp _ _ _ (Code.region 8 _ _) _ _)); first | refine Zac ?_ | (refine Zab tok (by rfl) ?_; conv => whnf) | refine Zai ?_ | (refine Zag ?_; conv => whnf) | (refine Za1 ?_; conv => whnf) | refine Zaf rfl (fun hb => ?_) (fun hb => ?_)))
  · have hlt : j < places.length := by simp only [decide_eq_true_eq] at hb; omega
    clear hb
    have hjz : (j : Int).toNat = j := by simp
    have hpj := hpl _ (Zck 0 hlt)
    have hpj' : 0 ≤ places.getD (j : Int).toNat 0 ∧ places.getD (j : Int).toNat 0 < (topF s).regs.length := by rw [hjz]; exact hpj
    ((repeat' first | (refine Zab tok (by rfl) ?_; conv => whnf) | (refine @And.intro (Zaa _ _ _ _) _ ?_ ?_; rotate_left; (conv => whnf); rotate_right)); all_goals (try ((guard_target = Zaa _ _ _ _); refine Zae ?_; (all_goals (try simp only [Zaa, kzz, kz11, kz12, maxL, Zad] at *)); all_goals omega)))
    refine .inr ⟨_, _, _, uG (QH.tnM (by simp) (by simp) hT h32 (Zax rfl rfl rfl rfl (fun _ => rfl)) rfl (fun q hq => Zao hq)), ?_⟩
    conv => whnf
    ((repeat' (refine @And.intro (Zaa _ _ _ _) _ ?_ ?_; rotate_left; (conv => whnf); rotate_right)); all_goals (try ((guard_target = Zaa _ _ _ _); refine Zae ?_; (all_goals (try simp only [Zaa, kzz, kz11, kz12, maxL, Zad] at *)); all_goals omega)))
    refine fAV (y := .rs jT 1 0 (topF s).regs.length) ?_ ?_
    · exact Zbb h rfl
    conv => whnf
    have hv : (topF s).regs.getD (0 + (places.getD (j : Int).toNat 0).toNat) 0 = (Zc7 (topF s) places).getD j 0 := by
      unfold Zc7
      rw [Nat.zero_add, hjz, List.getD_eq_getElem?_getD (l := places.map _), List.getElem?_map, List.getElem?_eq_getElem hlt, Zca 0 hlt]; rfl
    ((repeat' first | (refine Zab tok (by rfl) ?_; conv => whnf) | (refine @And.intro (Zaa _ _ _ _) _ ?_ ?_; rotate_left; (conv => whnf); rotate_right)); all_goals (try ((guard_target = Zaa _ _ _ _); refine Zae ?_; (first | refine And.intro (Zep rfl ?_) ?_ | skip); (all_goals (try simp only [Zaa, kzz, kz11, kz12, maxL, Zad] at *)); all_goals omega)))
    refine ⟨j + 1, hlt, by omega, ?_⟩
    refine Weak.fam (L := [jB]) (tl := [(0, .bp jB 0), (1, iv n), (2, ints places), (6, .rs (101, 0, 0) 1 0 (j + 1)), (20, ints places), (21, iv places.length), (22, iv (j + 1))]) (hl := [((101, 0, 0), .row true 1 (j + 1) (fun q => [.int .u16 ((Zc7 (topF s) places).getD q 0)]))] ++ memL m s) (F := famW s.stack) [((101, 0, 0), some (36, 0, 0))] rfl (fun c hc => ?_) ?_ ?_ ?_ (fun i hi _ => by rw [List.mem_singleton.1 hi]; exact ⟨rfl, rfl⟩)
    · rw [List.mem_singleton.1 (show c ∈ [(36, 0, 0)] from hc)]; exact .inl rfl
    · exact .cons (.bp rfl rfl) (.cons (.imm rfl) (.cons (.imm rfl) (.cons (.rs rfl rfl rfl rfl) (.cons (.imm rfl) (.cons (.imm rfl) (.cons (.int (Zal (by omega) (by omega))) .nil))))))
    · refine .old rfl rfl (GB.rowI (Nat.le_refl _) (fun q hq => ?_)) (Zci rfl rfl rfl rfl (fun _ => rfl) rfl ((congrArg (Option.map (Dv.mapB (kill (101, 0, 0)))) (rfl : some (Zc2 s.stack) = some (Zc2 s.stack))).trans (by rw [Option.map_some, map_fr (ρ := kill (101, 0, 0)) (fun _ => rfl) rfl])) rfl rfl rfl rfl rfl (fun q hq => Zcm hq))
      have e := appF (g := fun q => (Zc7 (topF s) places).getD q 0) hq hv
      simp only [allB, Zco, Bool.true_and, Bool.and_true, Bool.and_self, cond_true]
      exact ⟨by rw [show appR j (fun q => [AV.int IntKind.u16 ((Zc7 (topF s) places).getD q 0)]) _ q = _ from e]; rfl, e⟩
    · refine Zft (fun _ _ => rfl) (fun q hq => ?_)
      refine killH_fam (i := (101, 0, 0)) rfl ?_
      exact Za9 hq
  · have hjl : j = places.length := by simp only [decide_eq_false_iff_not] at hb; omega
    clear hb
    subst hjl
    have hal : (Zc7 (topF s) places).length = places.length := by simp [Zc7]
    have hN := c_fNew m n (Zc7 (topF s) places) hr h0 h1 (by rw [hal]; exact hp)
    (repeat' (refine Zab tok (by rfl) ?_; conv => whnf))
    refine .inr ⟨_, _, _, uG (QH.giveF (rd := [(101, 0, 0)]) hN (.cons (.imm rfl) (.cons (.imm rfl) (.cons (.row rfl (.head _) rfl hal.symm (fun q hq => rfl)) .nil))) (fun i hi => by rw [Zc3 hi]; rfl)), ?_⟩
    conv => whnf
    skip
    refine Za0 (Weak.fam (L := [jB]) (tl := [(0, .bp jB 0), (1, iv n), (2, ints places), (9, .bp (9, 0, 0) 0)]) (hl := [((1, 7, 0), .row false 22 1 (fun _ => macX (103, 0, 0) m s)), ((103, 0, 0), Zc2 s.stack), ((942, 0, 0), evB s.events), ((944, 0, 0), regB (topF s).regs), ((9, 0, 0), .row false 5 1 (fun _ => frO (frN m n (Zc7 (topF s) places)) (.rs r0 1 0 (frN m n (Zc7 (topF s) places)).regs.length))), ((905, 0, 0), regB (frN m n (Zc7 (topF s) places)).regs)]) (F := famW s.stack) [((103, 0, 0), some jF)] rfl (fun c hc => ?_) ?_ ?_ ?_ (fun i hi _ => by rw [List.mem_singleton.1 hi]; exact ⟨rfl, rfl⟩)) ?_
    · rw [List.mem_singleton.1 (show c ∈ [jF] from hc)]; exact .inl rfl
    · exact .cons (.bp rfl rfl) (.cons (.imm rfl) (.cons (.imm rfl) (.cons (.bp rfl rfl) .nil)))
    · refine .old rfl rfl (GB.one ?_ (fun e => by cases e)) (.old rfl rfl ?_ (.old rfl rfl (Zd7 _) (.old rfl rfl (Zbs _) (.old rfl rfl (GB.one (.cons (.imm rfl) (.cons (.imm rfl) (.cons (.imm rfl) (.cons (.rs rfl rfl rfl rfl) (.cons (.imm rfl) .nil))))) (fun e => by cases e)) (.old rfl rfl (Zbs _) .nil)))))
      rotate_left
      · show GB _ _ _ (mapKB [(101, 0, 0)] (Zc2 s.stack)) (Zc2 s.stack)
        rw [mapKB_eq, map_fr (ρ := killL [(101, 0, 0)]) (fun _ => rfl) rfl]
        refine GB_fr (fun _ _ => rfl) rfl (fun q hq => ?_) rfl
        exact Zcm hq
      exact (.cons (.rs rfl rfl rfl rfl) (.cons (.imm rfl) (.cons (.imm rfl) (.cons (.imm rfl) (.cons (.imm rfl) (.cons (.imm rfl) (.cons (.imm rfl) (.cons (.imm rfl) (.cons (.imm rfl) (.cons (.imm rfl) (.cons (.imm rfl) (.cons (.imm rfl) (.cons (.imm rfl) (.cons (.imm rfl) (.cons (.imm rfl) (.cons (.imm rfl) (.cons (.imm rfl) (.cons (.imm rfl) (.cons (.rs rfl rfl rfl rfl) (.cons (.imm rfl) (.cons (.imm rfl) (.cons (.imm rfl) .nil))))))))))))))))))))))
    · refine Zft (fun _ _ => rfl) (fun q hq => ?_)
      refine Zev (d := [(101, 0, 0)]) (u := oneR (frN m n (Zc7 (topF s) places)).regs) rfl rfl ?_
      exact Za2 hq
    refine Zel tok mix (by rfl) [0, 1, 2, 3, 4, 5, 6, 9, 10, 11] 30 (by rfl) (by rfl) (by rfl) ?_
    conv => whnf
    repeat' first
      | (refine @And.intro (Zaa _ _ _ _) _ ?_ ?_; rotate_left; (conv => whnf); rotate_right)
      | (guard_target = And _ _; refine @And.intro (gOp _ _ _ _ _ _ _ _ _) _ (by (conv => whnf); exact ⟨rfl, rfl⟩) ?_; conv => whnf)
      | (guard_target = And _ _; refine And.intro ?_ ?_ <;> (conv => whnf))
    all_goals (try ((guard_target = Zaa _ _ _ _); refine Zae ?_; (first | refine And.intro (Zep rfl ?_) ?_ | skip); (all_goals (try simp only [Zaa, kzz, kz11, kz12, maxL, Zad] at *)); all_goals omega))
    all_goals skip
    rw [hcm]
    have hg : frN m n (Zc7 (topF s) places) = frN m n (Zc7 (topF s) places) := rfl
    generalize frN m n (Zc7 (topF s) places) = g
    have hlen : (s.stack ++ [g]).length = s.stack.length + 1 := by simp
    have htop : topF { s with stack := s.stack ++ [g] } = g := by
      unfold topF; show (s.stack ++ [g]).getD ((s.stack ++ [g]).length - 1) default = g
      rw [hlen, Zfv, if_neg (by omega), if_pos (by omega)]
    have hold : ∀ q, q < s.stack.length → (s.stack ++ [g]).getD q default = s.stack.getD q default := fun q hq => by rw [Zfv, if_pos hq]
    have hnew : (s.stack ++ [g]).getD s.stack.length default = g := by rw [Zfv, if_neg (by omega), if_pos rfl]
    have hs1 : ∀ q, q < s.stack.length - 1 → srcL [(jF, some (56, 0, 0)), (jT, some r0), ((945, 0, s.stack.length - 1), some jT)] (945, 0, q) = some (945, 0, q) := fun q hq => by
      show (bif idEq (945, 0, s.stack.length - 1) (945, 0, q) then some jT else some (945, 0, q)) = _
      rw [Zbq.2 (fun e => by injection e with _ e; injection e with e _; omega)]; rfl
    have hs2 : srcL [(jF, some (56, 0, 0)), (jT, some r0), ((945, 0, s.stack.length - 1), some jT)] (945, 0, s.stack.length - 1) = some jT := by
      show (bif idEq (945, 0, s.stack.length - 1) (945, 0, s.stack.length - 1) then some jT else some (945, 0, s.stack.length - 1)) = _
      rw [Za3.2 rfl]; rfl
    refine ⟨_, srcL [(jF, some (56, 0, 0)), (jT, some r0), ((945, 0, s.stack.length - 1), some jT)], rfl, Zex rfl (fun i hi => ?_), fun j b e => ?_, .tup .nil, fun i hi _ => ?_⟩
    · rcases List.mem_cons.1 (show i ∈ [(56, 0, 0), r0, jT] from hi) with rfl | hi
      · exact .inl rfl
      rcases List.mem_cons.1 hi with rfl | hi
      · exact .inl rfl
      rw [List.mem_singleton.1 hi]; exact .inr (by simp)
    · rcases Zb2 e with ⟨rfl, rfl⟩ | ⟨rfl, rfl⟩ | ⟨rfl, rfl⟩ | ⟨rfl, rfl⟩ | ⟨q, rfl, hq2, rfl⟩
      · refine HOk.mk rfl rfl (GB.one ?_ (fun e => by cases e))
        refine .cons (.rs rfl rfl rfl hlen.symm) (.cons (.imm rfl) (.cons (.imm rfl) (.cons (.imm rfl) (.cons (.imm rfl) (.cons (.imm rfl) (.cons (.imm rfl) (.cons (.imm rfl) (.cons (.imm rfl) (.cons (.imm rfl) (.cons (.imm rfl) (.cons (.imm rfl) (.cons (.imm rfl) (.cons (.imm rfl) (.cons (.imm rfl) (.cons (.imm rfl) (.cons (.imm rfl) (.cons (.imm rfl) (.cons (.rs rfl rfl rfl rfl) (.cons (.imm rfl) (.cons (.imm rfl) (.cons (.imm rfl) .nil)))))))))))))))))))))
      · refine HOk.mk rfl rfl ?_
        refine GB.row (Nat.le_of_eq hlen) (fun q hq => ?_) (fun e => by cases e)
        have hq3 : q < s.stack.length + 1 := by rw [← hlen]; exact hq
        show GVs _ _ _ (Zbh (kill (103, 0, 0)) (appR s.stack.length (frC s.stack) (fun i => Zfm 5 (frO g (.rs r0 1 0 g.regs.length)) (0 + i)) q)) (frC (s.stack ++ [g]) q)
        by_cases e1 : q < s.stack.length
        · have ea : appR s.stack.length (frC s.stack) (fun i => Zfm 5 (frO g (.rs r0 1 0 g.regs.length)) (0 + i)) q = frC s.stack q := by
            unfold appR; rw [show Nat.blt q s.stack.length = true from by rw [Nat.blt_eq]; exact e1]; rfl
          have eb : Zbh (kill (103, 0, 0)) (frC s.stack q) = frC s.stack q := by
            show [_, _, _, Zbd _ (Zbc s.stack q), _] = _
            rw [map_regAV (ρ := kill (103, 0, 0)) (fun _ => rfl) rfl]; rfl
          rw [ea, eb]
          unfold frC
          rw [hold q e1]
          refine .cons (.imm rfl) (.cons (.imm rfl) (.cons (.imm rfl) (.cons ?_ (.cons (.imm rfl) .nil))))
          unfold Zbc
          rw [hold q e1]
          have hq4 : q < (s.stack ++ [g]).length - 1 := by omega
          have hq5 : mem m { s with stack := s.stack ++ [g] } (945, 0, q) = some (regB ((s.stack ++ [g]).getD q default).regs) := Za2 hq4
          by_cases e2 : q < s.stack.length - 1
          · exact .cc (Zcx e2) (Zcx hq4) (.rs hq5 (hs1 q e2) rfl rfl)
          · have : q = s.stack.length - 1 := by omega
            subst this
            exact .cc (Zdk (Nat.le_refl _)) (Zcx hq4) (.rs hq5 hs2 rfl rfl)
        · have : q = s.stack.length := by omega
          subst this
          have ea : appR s.stack.length (frC s.stack) (fun i => Zfm 5 (frO g (.rs r0 1 0 g.regs.length)) (0 + i)) s.stack.length = frO g (.rs r0 1 0 g.regs.length) := by
            unfold appR; rw [show Nat.blt s.stack.length s.stack.length = false from by rw [Bool.eq_false_iff]; intro h; rw [Nat.blt_eq] at h; omega, Nat.sub_self]; rfl
          rw [ea]
          unfold frC
          rw [hnew]
          refine .cons (.imm rfl) (.cons (.imm rfl) (.cons (.imm rfl) (.cons ?_ (.cons (.imm rfl) .nil))))
          unfold Zbc
          rw [hnew]
          exact .cc rfl (Zdk (by omega)) (.rs rfl rfl rfl rfl)
      · exact HOk.mk rfl rfl (Zd7 _)
      · refine HOk.mk rfl rfl ?_
        rw [htop]; exact Zbs _
      · have hq3 : q < s.stack.length := by have : q < (s.stack ++ [g]).length - 1 := hq2; omega
        show HOk _ _ _ _ (regB ((s.stack ++ [g]).getD q default).regs)
        rw [hold q hq3]
        by_cases e : q < s.stack.length - 1
        · refine HOk.mk (hs1 q e) (b0 := regB (s.stack.getD q default).regs) ?_ (Zbs _)
          refine killH_fam (i := (103, 0, 0)) rfl ?_
          exact Za2 e
        · have : q = s.stack.length - 1 := by omega
          subst this
          exact HOk.mk hs2 rfl (Zbs (topF s).regs)
    · rw [List.mem_singleton.1 hi]; exact ⟨rfl, rfl⟩
end Go.Proofs.YtoelbgjpmpoolaaGreat
namespace Go.Proofs.YtoelbgjpmpoolaaGreat
open Go Dv
set_option maxRecDepth 10000
set_option linter.unusedSimpArgs false
theorem with_len {s : Mach} {g : Zaw} (h : 0 < s.stack.length) : (Zbu s g).stack.length = s.stack.length := by simp [Zbu]; omega
theorem with_old {s : Mach} {g : Zaw} {q : Nat} (hq : q < s.stack.length - 1) : (Zbu s g).stack.getD q default = s.stack.getD q default := by
  show (s.stack.take (s.stack.length - 1) ++ [g]).getD q default = _
  rw [Zfv, List.length_take, if_pos (by omega), Zbw _ hq]
theorem with_top {s : Mach} {g : Zaw} (h : 0 < s.stack.length) : (Zbu s g).stack.getD (s.stack.length - 1) default = g := by
  show (s.stack.take (s.stack.length - 1) ++ [g]).getD (s.stack.length - 1) default = g
  rw [Zfv, List.length_take, if_neg (by omega), if_pos (by omega)]
abbrev srcT (E T : Dv.Id) : Dv.Id → Option Dv.Id := srcL [(jE, some E), (jT, some T)]
theorem leaveG {m : Zak} {s s' : Mach} {g : Zaw} {h : Zan} {E T : Dv.Id} {n' : Nat} {F : Nat → List AV} {b0 bE bT : Zam} (hp : 0 < s.stack.length) (hst : s'.stack = (Zbu s g).stack) (hnd : Zcj [E, T] = true)
    (hE : mem m s' E = none ∨ E = jE ∨ E = jT) (hT : mem m s' T = none ∨ T = jE ∨ T = jT) (h1 : h jB = some b0) (hB : GB (srcT E T) h (mem m s') b0 (macB m s')) (h2 : h jF = some (.row false 5 n' F)) (hn : s.stack.length ≤ n') (hF1 : ∀ q, q < s.stack.length - 1 → F q = frC s.stack q)
    (hF2 : F (s.stack.length - 1) = frO g (.rs T 1 0 g.regs.length)) (h3 : h E = some bE) (gE : GB (srcT E T) h (mem m s') bE (evB s'.events)) (h4 : h T = some bT) (gT : GB (srcT E T) h (mem m s') bT (regB g.regs)) (h5 : ∀ q, q < s.stack.length - 1 → h (945, 0, q) = some (regB (s.stack.getD q default).regs)) :
    (∀ j j' i, (mem m s' j).isSome = true → (mem m s' j').isSome = true → srcT E T j = some i → srcT E T j' = some i → j = j') ∧ ∀ j b, mem m s' j = some b → HOk (srcT E T) h (mem m s') j b := by
  have hl : s'.stack.length = s.stack.length := by rw [hst]; exact with_len hp
  have hold : ∀ q, q < s.stack.length - 1 → s'.stack.getD q default = s.stack.getD q default := fun q hq => by rw [hst]; exact with_old hq
  have hnew : s'.stack.getD (s.stack.length - 1) default = g := by rw [hst]; exact with_top hp
  have htop : topF s' = g := by unfold topF; rw [hl]; exact hnew
  refine ⟨Zex hnd (fun i hi => ?_), fun j b e => ?_⟩
  · rcases List.mem_cons.1 (show i ∈ [E, T] from hi) with rfl | hi
    · rcases hE with h | h | h
      · exact .inl h
      · exact .inr (by rw [h]; simp)
      · exact .inr (by rw [h]; simp)
    · rw [List.mem_singleton.1 hi]
      rcases hT with h | h | h
      · exact .inl h
      · exact .inr (by rw [h]; simp)
      · exact .inr (by rw [h]; simp)
  · rcases Zb2 e with ⟨rfl, rfl⟩ | ⟨rfl, rfl⟩ | ⟨rfl, rfl⟩ | ⟨rfl, rfl⟩ | ⟨q, rfl, hq2, rfl⟩
    · exact HOk.mk rfl h1 hB
    · refine HOk.mk rfl h2 ?_
      refine GB.row (by rw [hl]; exact hn) (fun q hq => ?_) (fun e => by cases e)
      rw [hl] at hq
      by_cases e1 : q < s.stack.length - 1
      · rw [hF1 q e1]
        unfold frC
        rw [hold q e1]
        refine .cons (.imm rfl) (.cons (.imm rfl) (.cons (.imm rfl) (.cons ?_ (.cons (.imm rfl) .nil))))
        unfold Zbc
        rw [hold q e1]
        have hq5 : mem m s' (945, 0, q) = some (regB (s'.stack.getD q default).regs) := Za2 (by rw [hl]; exact e1)
        exact .cc (Zcx e1) (Zcx (by rw [hl]; exact e1)) (.rs hq5 rfl rfl rfl)
      · have : q = s.stack.length - 1 := by omega
        subst this
        rw [hF2]
        unfold frC
        rw [hnew]
        refine .cons (.imm rfl) (.cons (.imm rfl) (.cons (.imm rfl) (.cons ?_ (.cons (.imm rfl) .nil))))
        unfold Zbc
        rw [hnew]
        exact .cc rfl (Zdk (by rw [hl]; exact Nat.le_refl _)) (.rs rfl rfl rfl rfl)
    · exact HOk.mk rfl h3 gE
    · refine HOk.mk rfl h4 ?_
      rw [htop]; exact gT
    · rw [hl] at hq2
      rw [hold q hq2]
      exact HOk.mk rfl (h5 q hq2) (Zbs _)
theorem frC_top {l : List Zaw} (h : 0 < l.length) : frC l (l.length - 1) = frO (l.getD (l.length - 1) default) (.rs jT 1 0 (l.getD (l.length - 1) default).regs.length) := by
  unfold frC frO Zbc
  rw [Zdk (Nat.le_refl _)]
theorem keepT {m : Zak} {s' : Mach} {E T : Dv.Id} : ∀ i ∈ [jB, jF], Zeb i = true → (mem m s' i).isSome = true ∧ srcT E T i = some i := fun i hi _ => by
  rcases List.mem_cons.1 hi with rfl | hi
  · exact ⟨rfl, rfl⟩
  · rw [List.mem_singleton.1 hi]; exact ⟨rfl, rfl⟩
theorem stack_top {s : Mach} (h : 0 < s.stack.length) : s.stack = s.stack.take (s.stack.length - 1) ++ [topF s] := by
  have e1 : s.stack.take (s.stack.length - 1 + 1) = s.stack.take (s.stack.length - 1) ++ [s.stack.getD (s.stack.length - 1) default] := by
    rw [List.take_add_one, List.getD_eq_getElem?_getD, List.getElem?_eq_getElem (by omega)]; rfl
  rw [show s.stack.length - 1 + 1 = s.stack.length by omega, List.take_length] at e1
  exact e1
theorem Zc5 {m : Zak} {s : Mach} {g : Zaw} (h : 0 < s.stack.length) : macC m (Zbu s g) = macC m s := by
  unfold macC; rw [with_len h]; rfl
end Go.Proofs.YtoelbgjpmpoolaaGreat
namespace Go.Proofs.YtoelbgjpmpoolaaGreat
open Go Dv
set_option maxRecDepth 10000
set_option linter.unusedSimpArgs false
set_option maxHeartbeats 4000000 in
theorem c_mIns8 (m : Zak) (s : Mach) (f : Zaw) (x : Ins) (hf : topF s = f) (h : 0 < s.stack.length) (hl : s.stack.length ≤ 32) (hat0 : 0 ≤ f.at_) (hat : f.at_ < 1000000) (h1 : 1 ≤ x.op) (h8 : x.op ≤ 8) (hd : 0 ≤ x.dst ∧ x.dst < f.regs.length) (ha : 1 < x.op → 0 ≤ x.a ∧ x.a < f.regs.length) (hb' : 2 < x.op → 0 ≤ x.b ∧ x.b < f.regs.length) :
    HG Tryz.prog [jB, jF] 113 (mem m s) [.bp jB 0, .rp jF 5 (s.stack.length - 1) 0, .agg (Zbf x)] (.bool false) (mem m (insM m s f x)) := by
  refine Za6 tok Tryz.func113 rfl (by decide +kernel) (Nat.le_of_ble_eq_true rfl) ?_
  have hmx : maxL = 4294967296 := rfl
  have hM : insM m s f x = if (Zdc f x).2 = true then Zbu s (Zdc f x).1 else endM s 3 0 := by
    unfold insM; rw [if_neg (by omega), if_pos h8]
  rw [hM]
  have hR := c_fReckon f x hat0 hat h1 h8 hd ha hb'
  have hle : s.stack.length - 1 < (endM s 3 0).stack.length := by show s.stack.length - 1 < s.stack.length; omega
  have hft : s.stack.getD (s.stack.length - 1) default = f := hf
  (repeat' ((fail_if_success (show AWp _ _ _ (Code.region 8 _ _) _ _)); (fail_if_success (show AWp _ _ _ (Code.region 12 _ _) _ _)); first | refine Zac ?_ | (refine Zab tok (by rfl) ?_; conv => whnf) | refine Zai ?_ | refine Zaf rfl (fun hb => ?_) (fun hb => ?_)))
  · exfalso; simp only [decide_eq_true_eq] at hb; omega
  clear hb
  (repeat' ((fail_if_success (show AWp _ _ _ (Code.region 13 _ _) _ _)); (fail_if_success (show AWp _ _ _ (Code.region 17 _ _) _ _)); first | refine Zac ?_ | (refine Zab tok (by rfl) ?_; conv => whnf) | refine Zaf rfl (fun hb => ?_) (fun hb => ?_)))
  · exfalso; simp only [decide_eq_true_eq] at hb; omega
  clear hb
  (repeat' ((fail_if_success (show AWp _ _ _ (Code.region 18 _ _) _ _)); (fail_if_success (show AWp _ _ _ (Code.region 20 _ _) _ _)); first | refine Zac ?_ | (refine Zab tok (by rfl) ?_; conv => whnf) | refine Zaf rfl (fun hb => ?_) (fun hb => ?_)))
  · exfalso; simp only [decide_eq_true_eq] at hb; omega
  clear hb
  (repeat' ((fail_if_success (show AWp _ _ _ (Code.region 21 _ _) _ _)); (fail_if_success (show AWp _ _ _ (Code.region 22 _ _) _ _)); first | refine Zac ?_ | (refine Zab tok (by rfl) ?_; conv => whnf) | refine Zaf rfl (fun hb => ?_) (fun hb => ?_)))
  · exfalso; simp only [decide_eq_true_eq] at hb; omega
  clear hb
  (repeat' ((fail_if_success (show AWp _ _ _ (Code.region 23 _ _) _ _)); (fail_if_success (show AWp _ _ _ (Code.region 2 _ _) _ _)); first | refine Zac ?_ | (refine Zab tok (by rfl) ?_; conv => whnf) | refine Zaf rfl (fun hb => ?_) (fun hb => ?_)))
  · exfalso; simp only [decide_eq_true_eq] at hb; omega
  clear hb
  have hR' : HF Tryz.prog 156 [.agg (Zbp (topF s)), .agg (Zbf x)] (.tup [.agg (frO (Zdc f x).1 (.rs r0 1 0 (Zdc f x).1.regs.length)), .bool (Zdc f x).2]) (oneR (Zdc f x).1.regs) := by rw [hf]; exact hR
  refine Zel tok mix (by rfl) [0, 1, 2, 3] 30 (by rfl) (by rfl) (by rfl) ?_
  conv => whnf
  repeat' first
    | (refine fAV (x := Zbc s.stack (s.stack.length - 1)) (y := .rs jT 1 0 (topF s).regs.length) (Zbb h rfl) ?_; (conv => whnf))
    | (refine @And.intro (Zaa _ _ _ _) _ ?_ ?_; rotate_left; (conv => whnf); rotate_right)
    | (guard_target = And _ _; refine @And.intro (gOp _ _ _ _ _ _ _ _ _) _ (by (conv => whnf); first | exact ⟨rfl, rfl⟩ | (refine fAV (x := Zbc s.stack (s.stack.length - 1)) (y := .rs jT 1 0 (topF s).regs.length) (Zbb h rfl) ?_; (conv => whnf); exact ⟨rfl, rfl⟩)) ?_; conv => whnf)
    | (guard_target = And _ _; refine And.intro ?_ ?_ <;> (conv => whnf))
  all_goals (try ((guard_target = Zaa _ _ _ _); refine Zae ?_; (all_goals (try simp only [Zaa, kzz, kz11, kz12, maxL, Zad] at *)); all_goals omega))
  all_goals (try (show AV.agg [_, _, _, Zbc s.stack (s.stack.length - 1), _] = AV.agg [_, _, _, .rs jT 1 0 (topF s).regs.length, _]; rw [Zbb h rfl]; done))
  all_goals refine .inr ⟨_, _, _, uG (QH.lendF (rd := [jT]) hR' (.cons (.agg (.cons (.imm rfl) (.cons (.imm rfl) (.cons (.imm rfl) (.cons (.row rfl (.head _) rfl rfl (fun _ _ => rfl)) (.cons (.imm rfl) .nil)))))) (.cons (.imm rfl) .nil)) (fun i hi => by rw [Zc3 hi]; rfl) rfl (fun j b e => by
    have := Zc3 (i := j) (by rw [e]; rfl)
    subst this; cases e; exact fun i hi => rfl)), ?_⟩
  all_goals conv => whnf
  all_goals (repeat' first
    | (refine fAV (x := Zbc s.stack (s.stack.length - 1)) (y := .rs jT 1 0 (topF s).regs.length) (Zbb h rfl) ?_; (conv => whnf))
    | (refine @And.intro (Zaa _ _ _ _) _ ?_ ?_; rotate_left; (conv => whnf); rotate_right)
    | (guard_target = And _ _; refine @And.intro (gOp _ _ _ _ _ _ _ _ _) _ (by (conv => whnf); first | exact ⟨rfl, rfl⟩ | (refine fAV (x := Zbc s.stack (s.stack.length - 1)) (y := .rs jT 1 0 (topF s).regs.length) (Zbb h rfl) ?_; (conv => whnf); exact ⟨rfl, rfl⟩)) ?_; conv => whnf)
    | (guard_target = And _ _; refine And.intro ?_ ?_ <;> (conv => whnf)))
  all_goals (try ((guard_target = Zaa _ _ _ _); refine Zae ?_; (all_goals (try simp only [Zaa, kzz, kz11, kz12, maxL, Zad] at *)); all_goals omega))
  all_goals (try (show AV.agg [_, _, _, Zbc s.stack (s.stack.length - 1), _] = AV.agg [_, _, _, .rs jT 1 0 (topF s).regs.length, _]; rw [Zbb h rfl]; done))
  all_goals
    refine Za0 (Weak.fam (L := [jB, jF]) (tl := [(0, .bp jB 0), (1, .rp jF 5 (s.stack.length - 1) 0), (10, .bp (10, 0, 0) 0), (11, .bool (Zdc f x).2)]) (hl := [((10, 0, 0), .row false 5 1 (fun _ => frO (Zdc f x).1 (.rs r0 1 0 (Zdc f x).1.regs.length))), ((905, 0, 0), regB (Zdc f x).1.regs)] ++ memL m s) (F := famW s.stack) [] rfl (fun c hc => by cases hc) ?_ ?_ ?_ (fun i hi _ => ?_)) ?_
    · exact .cons (.bp rfl rfl) (.cons (.rp rfl rfl rfl) (.cons (.bp rfl rfl) (.cons (.imm rfl) .nil)))
    · refine .old rfl rfl (GB.one (.cons (.imm rfl) (.cons (.imm rfl) (.cons (.imm rfl) (.cons (.rs rfl rfl rfl rfl) (.cons (.imm rfl) .nil))))) (fun e => by cases e)) (.old rfl rfl (Zbs _) ?_)
      exact Zci rfl rfl rfl rfl (fun _ => rfl) rfl rfl rfl rfl rfl rfl rfl (fun q hq => Zcm hq)
    · refine Zft (fun _ _ => rfl) (fun q hq => ?_)
      refine Zev (d := []) (u := oneR (Zdc f x).1.regs) rfl rfl ?_
      exact Za2 hq
    · rcases List.mem_cons.1 hi with rfl | hi
      · exact ⟨rfl, rfl⟩
      · rw [List.mem_singleton.1 hi]; exact ⟨rfl, rfl⟩
    (repeat' ((fail_if_success (show AWp _ _ _ (Code.region 4 _ _) _ _)); (fail_if_success (show AWp _ _ _ (Code.region 5 _ _) _ _)); first | refine Zac ?_ | (refine Zab tok (by rfl) ?_; conv => whnf) | (refine Zag ?_; conv => whnf) | refine Zaf rfl (fun hb => ?_) (fun hb => ?_)))
    · have hv : ¬ (Zdc f x).2 = true := by simpa using hb
      clear hb
      have hv1 : (Zdc f x).1 = f := by
        unfold Zdc at hv ⊢
        split
        · rename_i h; rw [if_pos h] at hv; exact absurd rfl hv
        · rfl
      rw [if_neg hv]
      (repeat' (refine Zab tok (by rfl) ?_; conv => whnf))
      refine .inr ⟨_, _, _, uG (QH.tnM (by simp) (by simp) (c_mEnd m s 3 0) hl (Zax rfl rfl rfl rfl (fun _ => rfl)) rfl (fun q hq => Zao hq)), ?_⟩
      conv => whnf
      ((repeat' first | refine Zac ?_ | (refine Zab tok (by rfl) ?_; conv => whnf) | (refine Zaj ?_; conv => whnf) | (refine @And.intro (Zaa _ _ _ _) _ ?_ ?_; rotate_left; (conv => whnf); rotate_right)); all_goals (try ((guard_target = Zaa _ _ _ _); refine Zae ?_; (all_goals (try simp only [Zaa, kzz, kz11, kz12, maxL, Zad] at *)); all_goals omega)))
      refine ⟨_, srcT jE r0, rfl, ?_⟩
      rw [← and_assoc]
      refine ⟨leaveG (s := s) (g := (Zdc f x).1) (n' := s.stack.length) h ?_ rfl (.inr (.inl rfl)) (.inl rfl) rfl (Zd6 (s := endM s 3 0) rfl rfl rfl rfl rfl) rfl (Nat.le_refl _) (fun q hq => ?_) ?_ rfl (Zd7 _) rfl ?_ (fun q hq => ?_), .bool rfl, keepT⟩
      · show s.stack = s.stack.take (s.stack.length - 1) ++ [(Zdc f x).1]
        rw [hv1, ← hf]; exact stack_top h
      · exact Zcv (by omega)
      · exact Zdi
      · exact Zbs _
      · exact Za9 (s := endM s 3 0) hq
    · have hv : (Zdc f x).2 = true := by simpa using hb
      clear hb
      rw [if_pos hv]
      ((repeat' first | refine Zac ?_ | (refine Zab tok (by rfl) ?_; conv => whnf) | (refine Zaj ?_; conv => whnf) | (refine @And.intro (Zaa _ _ _ _) _ ?_ ?_; rotate_left; (conv => whnf); rotate_right)); all_goals (try ((guard_target = Zaa _ _ _ _); refine Zae ?_; (all_goals (try simp only [Zaa, kzz, kz11, kz12, maxL, Zad] at *)); all_goals omega)))
      refine ⟨_, srcT jE r0, rfl, ?_⟩
      rw [← and_assoc]
      refine ⟨leaveG (s := s) (g := (Zdc f x).1) (n' := s.stack.length) h rfl rfl (.inr (.inl rfl)) (.inl rfl) rfl ?_ rfl (Nat.le_refl _) (fun q hq => ?_) ?_ rfl (Zd7 _) rfl (Zbs _) (fun q hq => ?_), .bool rfl, keepT⟩
      · exact Zd6 (s := Zbu s (Zdc f x).1) (Zc5 h).symm rfl rfl rfl rfl
      · exact Zcv (by omega)
      · exact Zdi
      · exact Za2 hq
end Go.Proofs.YtoelbgjpmpoolaaGreat
namespace Go.Proofs.YtoelbgjpmpoolaaGreat
open Go Dv
set_option maxRecDepth 10000
set_option linter.unusedSimpArgs false
theorem cells22 {src : Dv.Id → Option Dv.Id} {h h' : Zan} {m : Zak} {s : Mach} {F F' : Dv.Id} (hF : (h' F').isSome = true) (sF : src F' = some F) (hE : (h' jE).isSome = true) (sE : src jE = some jE) : GVs src h h' (macX F m s) (macX F' m s) := by
  cases e1 : h' F' with
  | none => rw [e1] at hF; cases hF
  | some b1 =>
    cases e2 : h' jE with
    | none => rw [e2] at hE; cases hE
    | some b2 =>
      exact (.cons (.rs e1 sF rfl rfl) (.cons (.imm rfl) (.cons (.imm rfl) (.cons (.imm rfl) (.cons (.imm rfl) (.cons (.imm rfl) (.cons (.imm rfl) (.cons (.imm rfl) (.cons (.imm rfl) (.cons (.imm rfl) (.cons (.imm rfl) (.cons (.imm rfl) (.cons (.imm rfl) (.cons (.imm rfl) (.cons (.imm rfl) (.cons (.imm rfl) (.cons (.imm rfl) (.cons (.imm rfl) (.cons (.rs e2 sE rfl rfl) (.cons (.imm rfl) (.cons (.imm rfl) (.cons (.imm rfl) .nil))))))))))))))))))))))
theorem renN {m : Zak} {s s' : Mach} {f : FuncId} {args : List AV} {r : AV} (h : HG Tryz.prog [jB] f (mem m s) args r (mem m s')) (ha : GVs (srcL [(jF, some jN)]) (memN m s) (mem m s) args args) : HG Tryz.prog [jB] f (memN m s) args r (mem m s') := by
  refine h.ren (srcL [(jF, some jN)]) (Zex rfl (fun i hi => ?_)) (fun j b e => ?_) ha (fun i hi _ => by rw [List.mem_singleton.1 hi]; exact ⟨rfl, rfl⟩)
  · rw [List.mem_singleton.1 (show i ∈ [jN] from hi)]; exact .inl rfl
  · rcases Zb2 e with ⟨rfl, rfl⟩ | ⟨rfl, rfl⟩ | ⟨rfl, rfl⟩ | ⟨rfl, rfl⟩ | ⟨q, rfl, hq2, rfl⟩
    · exact HOk.mk rfl rfl (GB.one (cells22 rfl rfl rfl rfl) (fun e => by cases e))
    · exact HOk.mk rfl rfl (GB_fr (fun _ _ => rfl) rfl (fun q hq => by rw [Zdu, Za2 hq]; rfl) rfl)
    · exact HOk.mk rfl rfl (Zd7 _)
    · exact HOk.mk rfl rfl (Zbs _)
    · exact HOk.mk rfl (Za2 (l := s.stack) hq2) (Zbs _)
theorem memN_sub {m : Zak} {s : Mach} {h : Zan} (h1 : h jB = some (.row false 22 1 (fun _ => macX jN m s))) (h2 : h jN = some (Zc2 s.stack)) (h3 : h jE = some (evB s.events)) (h4 : h jT = some (regB (topF s).regs)) (h5 : ∀ q, h (945, 0, q) = famW s.stack (945, 0, q)) :
    ∀ j b, memN m s j = some b → h j = some b := fun j b e => by
  rcases memN_some e with ⟨rfl, rfl⟩ | ⟨rfl, rfl⟩ | ⟨rfl, rfl⟩ | ⟨rfl, rfl⟩ | ⟨q, rfl, hq, rfl⟩
  · exact h1
  · exact h2
  · exact h3
  · exact h4
  · rw [h5 q, Za2 hq]
abbrev memNL (m : Zak) (s : Mach) : List (Dv.Id × Zam) := [(jB, .row false 22 1 (fun _ => macX jN m s)), (jN, Zc2 s.stack), (jE, evB s.events), (jT, regB (topF s).regs)]
theorem HLs_memN {src : Dv.Id → Option Dv.Id} {m : Zak} {s : Mach} {h h' : Zan} {imm : Bool} {f : Nat → List AV} (sB : src jB = some jB) (sF : src jN = some jF) (sE : src jE = some jE) (sT : src jT = some jT) (sW : ∀ q, src (945, 0, q) = some (945, 0, q)) (h1 : h jB = some (.row imm 22 1 f)) (hf : f 0 = macC m s) (h2 : h jF = some (Zc2 s.stack)) (h3 : h jE = some (evB s.events)) (h4 : h jT = some (regB (topF s).regs))
    (k2 : (h' jN).isSome = true) (k3 : (h' jE).isSome = true) (k4 : (h' jT).isSome = true) (k5 : ∀ q, q < s.stack.length - 1 → (h' (945, 0, q)).isSome = true) : HLs src h h' (memNL m s) :=
  .old sB h1 (GB.one (by rw [hf]; exact cells22 (F := jF) k2 sF k3 sE) (fun e => by cases e)) (.old sF h2 (GB_fr (fun q _ => sW q) sT k5 k4) (.old sE h3 (Zd7 _) (.old sT h4 (Zbs _) .nil)))
set_option maxHeartbeats 4000000 in
theorem c_mIns11 (m : Zak) (s : Mach) (x : Ins) (p : Nat) (ho : x.op = 11) (h32 : s.stack.length ≤ 32) (hc : HG Tryz.prog [jB] 116 (mem m s) [.bp jB 0, iv x.f, ints x.args] (.tup []) (mem m (Zcq m s x.f x.args))) :
    HG Tryz.prog [jB] 113 (mem m s) [.bp jB 0, .rp jF 5 p 0, .agg (Zbf x)] (.bool false) (mem m (Zcq m s x.f x.args)) := by
  refine Za6 tok Tryz.func113 rfl (by decide +kernel) (Nat.le_of_ble_eq_true rfl) ?_
  have hmx : maxL = 4294967296 := rfl
  have hc' := renN hc (.cons (.bp rfl rfl) (.cons (.imm rfl) (.cons (.imm rfl) .nil)))
  (repeat' ((fail_if_success (show AWp _ _ _ (Code.region 8 _ _) _ _)); (fail_if_success (show AWp _ _ _ (Code.region 12 _ _) _ _)); first | refine Zac ?_ | (refine Zab tok (by rfl) ?_; conv => whnf) | refine Zai ?_ | refine Zaf rfl (fun hb => ?_) (fun hb => ?_)))
  · exfalso; simp only [decide_eq_true_eq] at hb; omega
  clear hb
  (repeat' ((fail_if_success (show AWp _ _ _ (Code.region 13 _ _) _ _)); (fail_if_success (show AWp _ _ _ (Code.region 17 _ _) _ _)); first | refine Zac ?_ | (refine Zab tok (by rfl) ?_; conv => whnf) | refine Zaf rfl (fun hb => ?_) (fun hb => ?_)))
  · exfalso; simp only [decide_eq_true_eq] at hb; omega
  clear hb
  (repeat' ((fail_if_success (show AWp _ _ _ (Code.region 18 _ _) _ _)); (fail_if_success (show AWp _ _ _ (Code.region 20 _ _) _ _)); first | refine Zac ?_ | (refine Zab tok (by rfl) ?_; conv => whnf) | refine Zaf rfl (fun hb => ?_) (fun hb => ?_)))
  · clear hb
    refine Za0 (Weak.fam (L := [jB]) (tl := [(0, .bp jB 0), (5, .bp (5, 0, 0) 0)]) (hl := [((5, 0, 0), Zba (Zbf x))] ++ memNL m s) (F := famW s.stack) [(jN, some jF)] rfl (fun c hc => ?_) ?_ ?_ ?_ (fun i hi _ => by rw [List.mem_singleton.1 hi]; exact ⟨rfl, rfl⟩)) ?_
    · rw [List.mem_singleton.1 (show c ∈ [jF] from hc)]; exact .inl rfl
    · exact .cons (.bp rfl rfl) (.cons (.bp rfl rfl) .nil)
    · refine .old rfl rfl (GB.one (GVs.imm rfl) (fun _ => rfl)) ?_
      exact HLs_memN rfl rfl rfl rfl (fun _ => rfl) rfl rfl rfl rfl rfl rfl rfl rfl (fun q hq => Zcm hq)
    · refine Zft (fun _ _ => rfl) (fun q hq => ?_)
      exact Za2 hq
    (repeat' (refine Zab tok (by rfl) ?_; conv => whnf))
    refine .inr ⟨_, _, _, uG (QH.ddM (by simp) hc' h32 (memN_sub rfl rfl rfl rfl (fun _ => rfl)) rfl rfl (fun q hq => Zao hq)), ?_⟩
    conv => whnf
    (repeat' first | refine Zac ?_ | (refine Zab tok (by rfl) ?_; conv => whnf) | (refine Zaj ?_; conv => whnf))
    refine ⟨_, srcL [], rfl, ?_⟩
    rw [← and_assoc]
    refine ⟨Zdg (s := Zcq m s x.f x.args) rfl rfl rfl (Zcc rfl rfl rfl) rfl rfl rfl (fun q hq => Za9 hq), .bool rfl, fun i hi _ => ?_⟩
    rw [List.mem_singleton.1 hi]; exact ⟨rfl, rfl⟩
  · exfalso; simp only [decide_eq_false_iff_not] at hb; omega
end Go.Proofs.YtoelbgjpmpoolaaGreat
namespace Go.Proofs.YtoelbgjpmpoolaaGreat
open Go Dv
set_option maxRecDepth 10000
set_option linter.unusedSimpArgs false
set_option maxHeartbeats 4000000 in
theorem c_mIns12 (m : Zak) (s : Mach) (x : Ins) (ho : x.op = 12) (h : 0 < s.stack.length) (ha : 0 ≤ x.a ∧ x.a < (topF s).regs.length) (he : s.events.length < 1000000) :
    HG Tryz.prog [jB, jF] 113 (mem m s) [.bp jB 0, .rp jF 5 (s.stack.length - 1) 0, .agg (Zbf x)] (.bool true) (mem m (evM s ((topF s).regs.getD x.a.toNat 0))) := by
  refine Za6 tok Tryz.func113 rfl (by decide +kernel) (Nat.le_of_ble_eq_true rfl) ?_
  have hmx : maxL = 4294967296 := rfl
  (repeat' ((fail_if_success (show AWp _ _ _ (Code.region 8 _ _) _ _)); (fail_if_success (show AWp _ _ _ (Code.region 12 _ _) _ _)); first | refine Zac ?_ | (refine Zab tok (by rfl) ?_; conv => whnf) | refine Zai ?_ | refine Zaf rfl (fun hb => ?_) (fun hb => ?_)))
  · exfalso; simp only [decide_eq_true_eq] at hb; omega
  clear hb
  (repeat' ((fail_if_success (show AWp _ _ _ (Code.region 13 _ _) _ _)); (fail_if_success (show AWp _ _ _ (Code.region 17 _ _) _ _)); first | refine Zac ?_ | (refine Zab tok (by rfl) ?_; conv => whnf) | refine Zaf rfl (fun hb => ?_) (fun hb => ?_)))
  · exfalso; simp only [decide_eq_true_eq] at hb; omega
  clear hb
  (repeat' ((fail_if_success (show AWp _ _ _ (Code.region 18 _ _) _ _)); (fail_if_success (show AWp _ _ _ (Code.region 20 _ _) _ _)); first | refine Zac ?_ | (refine Zab tok (by rfl) ?_; conv => whnf) | refine Zaf rfl (fun hb => ?_) (fun hb => ?_)))
  · exfalso; simp only [decide_eq_true_eq] at hb; omega
  clear hb
  (repeat' ((fail_if_success (show AWp _ _ _ (Code.region 21 _ _) _ _)); (fail_if_success (show AWp _ _ _ (Code.region 22 _ _) _ _)); first | refine Zac ?_ | (refine Zab tok (by rfl) ?_; conv => whnf) | refine Zaf rfl (fun hb => ?_) (fun hb => ?_)))
  · clear hb
    refine Zel tok mix (by rfl) [0, 1, 2, 3, 4, 5, 6, 7, 8, 9, 10, 11, 12, 13, 17, 18, 19] 30 (by rfl) (by rfl) (by rfl) ?_
    conv => whnf
    all_goals (repeat' first
      | (refine fAV (x := Zbc s.stack (s.stack.length - 1)) (y := .rs jT 1 0 (topF s).regs.length) (Zbb h rfl) ?_; (conv => whnf))
      | (refine @And.intro (Zaa _ _ _ _) _ ?_ ?_; rotate_left; (conv => whnf); rotate_right)
      | (guard_target = And _ _; refine @And.intro (gOp _ _ _ _ _ _ _ _ _) _ (by (conv => whnf); first | exact ⟨rfl, rfl⟩ | (refine fAV (x := Zbc s.stack (s.stack.length - 1)) (y := .rs jT 1 0 (topF s).regs.length) (Zbb h rfl) ?_; (conv => whnf); exact ⟨rfl, rfl⟩)) ?_; conv => whnf)
      | (guard_target = And _ _; refine And.intro ?_ ?_ <;> (conv => whnf)))
    all_goals (try ((guard_target = Zaa _ _ _ _); refine Zae ?_; (first | refine And.intro (Zep rfl ?_) ?_ | skip); (all_goals (try simp only [Zaa, kzz, kz11, kz12, maxL, Zad] at *)); all_goals omega))
    all_goals (try (show gval none (Zbc s.stack (s.stack.length - 1)) = AV.rs jT 1 0 (topF s).regs.length; rw [Zbb h rfl]; rfl))
    all_goals (try (show gval none (Zbd (kill jE) (Zbc s.stack (s.stack.length - 1))) = AV.rs jT 1 0 (topF s).regs.length; rw [map_regAV (ρ := kill jE) (fun _ => rfl) rfl, Zbb h rfl]; rfl))
    all_goals (try rfl)
    refine Zas 100 (fun hl => ?_)
    have hreg : 0 ≤ (topF s).regs.getD (0 + x.a.toNat) 0 ∧ (topF s).regs.getD (0 + x.a.toNat) 0 ≤ 65535 := hl
    clear hl
    rw [Nat.zero_add] at hreg
    (repeat' first | refine Zac ?_ | (refine Zab tok (by rfl) ?_; conv => whnf) | (refine Zaj ?_; conv => whnf))
    refine ⟨_, srcT (103, 0, 0) jT, rfl, ?_⟩
    rw [← and_assoc]
    refine ⟨leaveG (s := s) (g := topF s) (n' := s.stack.length) (F := frC s.stack) h (stack_top h) rfl (.inl rfl) (.inr (.inr rfl)) rfl (GB.one ?_ (fun e => by cases e)) ?_ (Nat.le_refl _) (fun q hq => rfl) (frC_top h) rfl (GB.rowI (Nat.le_of_eq ?_) (fun z hz => ?_)) rfl (Zbs _) (fun q hq => ?_), .bool rfl, keepT⟩
    · refine (.cons (.rs rfl rfl rfl rfl) (.cons (.imm rfl) (.cons (.imm rfl) (.cons (.imm rfl) (.cons (.imm rfl) (.cons (.imm rfl) (.cons (.imm rfl) (.cons (.imm rfl) (.cons (.imm rfl) (.cons (.imm rfl) (.cons (.imm rfl) (.cons (.imm rfl) (.cons (.imm rfl) (.cons (.imm rfl) (.cons (.imm rfl) (.cons (.imm rfl) (.cons (.imm rfl) (.cons (.imm rfl) (.cons (.rs rfl rfl rfl ?_) (.cons (.imm rfl) (.cons (.imm rfl) (.cons (.imm rfl) .nil))))))))))))))))))))))
      show s.events.length + 1 = (s.events ++ [_]).length
      simp
    · exact (congrArg (Option.map (Dv.mapB (kill jE))) (rfl : some (Zc2 s.stack) = some (Zc2 s.stack))).trans (by rw [Option.map_some, map_fr (ρ := kill jE) (fun _ => rfl) rfl]; rfl)
    · show (s.events ++ [_]).length = s.events.length + 1
      simp
    · have hz2 : z < s.events.length + 1 := by
        have : z < (s.events ++ [(topF s).regs.getD x.a.toNat 0]).length := hz
        simpa using this
      have e := appI (v := (topF s).regs.getD x.a.toNat 0) (F := fun i => [iv (s.events.getD i 0)]) rfl hz2 (show IntKind.i64.wrap ((topF s).regs.getD (0 + x.a.toNat) 0) = _ by rw [Nat.zero_add]; exact Zal (by omega) (by omega)) (fun i hi => rfl)
      simp only [allB, Zco, Bool.true_and, Bool.and_true, Bool.and_self, cond_true]
      exact ⟨by rw [show appR s.events.length (fun i => [iv (s.events.getD i 0)]) _ z = _ from e]; rfl, e⟩
    · refine killH_fam (i := jE) rfl ?_
      exact Za2 hq
  · exfalso; simp only [decide_eq_false_iff_not] at hb; omega
end Go.Proofs.YtoelbgjpmpoolaaGreat
namespace Go.Proofs.YtoelbgjpmpoolaaGreat
open Go Dv
set_option maxRecDepth 10000
set_option linter.unusedSimpArgs false
theorem frO_W (f : Zaw) (d w : Int) (T : Dv.Id) : frO f (.rs T 1 0 f.regs.length) = frO (frW f d w) (.rs T 1 0 (frW f d w).regs.length) := by
  rw [show (frW f d w).regs.length = f.regs.length by simp [frW]]; rfl
theorem keepE {hl : List (Dv.Id × Zam)} {F : Zan} {E : Dv.Id} (hB : (orH (Zaz hl) F jB).isSome = true := by rfl) (hF : (orH (Zaz hl) F jF).isSome = true := by rfl) : ∀ i ∈ [jB, jF], Zeb i = true → (orH (Zaz hl) F i).isSome = true ∧ srcL [(jE, some E)] i = some i := fun i hi _ => by
  rcases List.mem_cons.1 hi with rfl | hi
  · exact ⟨hB, rfl⟩
  · rw [List.mem_singleton.1 hi]; exact ⟨hF, rfl⟩
set_option maxHeartbeats 4000000 in
theorem c_mIns13a (m : Zak) (s : Mach) (x : Ins) (ho : x.op = 13) (h32 : s.stack.length ≤ 32) (hz : s.inputs.length = 0) :
    HG Tryz.prog [jB, jF] 113 (mem m s) [.bp jB 0, .rp jF 5 (s.stack.length - 1) 0, .agg (Zbf x)] (.bool false) (mem m (endM s 6 0)) := by
  refine Za6 tok Tryz.func113 rfl (by decide +kernel) (Nat.le_of_ble_eq_true rfl) ?_
  have hmx : maxL = 4294967296 := rfl
  (repeat' ((fail_if_success (show AWp _ _ _ (Code.region 8 _ _) _ _)); (fail_if_success (show AWp _ _ _ (Code.region 12 _ _) _ _)); first | refine Zac ?_ | (refine Zab tok (by rfl) ?_; conv => whnf) | refine Zai ?_ | refine Zaf rfl (fun hb => ?_) (fun hb => ?_)))
  · exfalso; simp only [decide_eq_true_eq] at hb; omega
  clear hb
  (repeat' ((fail_if_success (show AWp _ _ _ (Code.region 13 _ _) _ _)); (fail_if_success (show AWp _ _ _ (Code.region 17 _ _) _ _)); first | refine Zac ?_ | (refine Zab tok (by rfl) ?_; conv => whnf) | refine Zaf rfl (fun hb => ?_) (fun hb => ?_)))
  · exfalso; simp only [decide_eq_true_eq] at hb; omega
  clear hb
  (repeat' ((fail_if_success (show AWp _ _ _ (Code.region 18 _ _) _ _)); (fail_if_success (show AWp _ _ _ (Code.region 20 _ _) _ _)); first | refine Zac ?_ | (refine Zab tok (by rfl) ?_; conv => whnf) | refine Zaf rfl (fun hb => ?_) (fun hb => ?_)))
  · exfalso; simp only [decide_eq_true_eq] at hb; omega
  clear hb
  (repeat' ((fail_if_success (show AWp _ _ _ (Code.region 21 _ _) _ _)); (fail_if_success (show AWp _ _ _ (Code.region 22 _ _) _ _)); first | refine Zac ?_ | (refine Zab tok (by rfl) ?_; conv => whnf) | refine Zaf rfl (fun hb => ?_) (fun hb => ?_)))
  · exfalso; simp only [decide_eq_true_eq] at hb; omega
  clear hb
  (repeat' ((fail_if_success (show AWp _ _ _ (Code.region 23 _ _) _ _)); (fail_if_success (show AWp _ _ _ (Code.region 2 _ _) _ _)); first | refine Zac ?_ | (refine Zab tok (by rfl) ?_; conv => whnf) | refine Zaf rfl (fun hb => ?_) (fun hb => ?_)))
  · clear hb
    (repeat' ((fail_if_success (show AWp _ _ _ (Code.region 24 _ _) _ _)); (fail_if_success (show AWp _ _ _ (Code.region 26 _ _) _ _)); first | refine Zac ?_ | (refine Zab tok (by rfl) ?_; conv => whnf) | (refine Zag ?_; conv => whnf) | refine Zaf rfl (fun hb => ?_) (fun hb => ?_)))
    · (repeat' (refine Zab tok (by rfl) ?_; conv => whnf))
      refine .inr ⟨_, _, _, uG (QH.tnM (by simp) (by simp) (c_mEnd m s 6 0) h32 (Zax rfl rfl rfl rfl (fun _ => rfl)) rfl (fun q hq => Zao hq)), ?_⟩
      conv => whnf
      (repeat' first | refine Zac ?_ | (refine Zab tok (by rfl) ?_; conv => whnf) | (refine Zaj ?_; conv => whnf))
      refine ⟨_, srcL [], rfl, ?_⟩
      rw [← and_assoc]
      exact ⟨Zdg (s := endM s 6 0) rfl rfl rfl (Zcc rfl rfl rfl) rfl rfl rfl (fun q hq => Za9 hq), .bool rfl, Zcs⟩
    · exfalso; rw [hz] at hb; cases hb
  · exfalso; simp only [decide_eq_false_iff_not] at hb; omega
set_option maxHeartbeats 4000000 in
theorem c_mIns13b (m : Zak) (s : Mach) (x : Ins) (ho : x.op = 13) (h : 0 < s.stack.length) (hz : ¬ s.inputs.length = 0) (hi : s.inputs.length < 1000000) (hd : 0 ≤ x.dst ∧ x.dst < (topF s).regs.length) (he : s.events.length < 1000000) :
    HG Tryz.prog [jB, jF] 113 (mem m s) [.bp jB 0, .rp jF 5 (s.stack.length - 1) 0, .agg (Zbf x)] (.bool true) (mem m (Zbu (inM s) (frW (topF s) x.dst (s.inputs.getD 0 0)))) := by
  refine Za6 tok Tryz.func113 rfl (by decide +kernel) (Nat.le_of_ble_eq_true rfl) ?_
  have hmx : maxL = 4294967296 := rfl
  (repeat' ((fail_if_success (show AWp _ _ _ (Code.region 8 _ _) _ _)); (fail_if_success (show AWp _ _ _ (Code.region 12 _ _) _ _)); first | refine Zac ?_ | (refine Zab tok (by rfl) ?_; conv => whnf) | refine Zai ?_ | refine Zaf rfl (fun hb => ?_) (fun hb => ?_)))
  · exfalso; simp only [decide_eq_true_eq] at hb; omega
  clear hb
  (repeat' ((fail_if_success (show AWp _ _ _ (Code.region 13 _ _) _ _)); (fail_if_success (show AWp _ _ _ (Code.region 17 _ _) _ _)); first | refine Zac ?_ | (refine Zab tok (by rfl) ?_; conv => whnf) | refine Zaf rfl (fun hb => ?_) (fun hb => ?_)))
  · exfalso; simp only [decide_eq_true_eq] at hb; omega
  clear hb
  (repeat' ((fail_if_success (show AWp _ _ _ (Code.region 18 _ _) _ _)); (fail_if_success (show AWp _ _ _ (Code.region 20 _ _) _ _)); first | refine Zac ?_ | (refine Zab tok (by rfl) ?_; conv => whnf) | refine Zaf rfl (fun hb => ?_) (fun hb => ?_)))
  · exfalso; simp only [decide_eq_true_eq] at hb; omega
  clear hb
  (repeat' ((fail_if_success (show AWp _ _ _ (Code.region 21 _ _) _ _)); (fail_if_success (show AWp _ _ _ (Code.region 22 _ _) _ _)); first | refine Zac ?_ | (refine Zab tok (by rfl) ?_; conv => whnf) | refine Zaf rfl (fun hb => ?_) (fun hb => ?_)))
  · exfalso; simp only [decide_eq_true_eq] at hb; omega
  clear hb
  (repeat' ((fail_if_success (show AWp _ _ _ (Code.region 23 _ _) _ _)); (fail_if_success (show AWp _ _ _ (Code.region 2 _ _) _ _)); first | refine Zac ?_ | (refine Zab tok (by rfl) ?_; conv => whnf) | refine Zaf rfl (fun hb => ?_) (fun hb => ?_)))
  · clear hb
    (repeat' ((fail_if_success (show AWp _ _ _ (Code.region 24 _ _) _ _)); (fail_if_success (show AWp _ _ _ (Code.region 26 _ _) _ _)); first | refine Zac ?_ | (refine Zab tok (by rfl) ?_; conv => whnf) | (refine Zag ?_; conv => whnf) | refine Zaf rfl (fun hb => ?_) (fun hb => ?_)))
    · exfalso; simp only [decide_eq_true_eq] at hb; omega
    clear hb
    ((repeat' ((fail_if_success (show AWp _ _ _ (Code.region 27 _ _) _ _)); first | refine Zac ?_ | (refine Zab tok (by rfl) ?_; conv => whnf) | (refine @And.intro (Zaa _ _ _ _) _ ?_ ?_; rotate_left; (conv => whnf); rotate_right))); all_goals (try ((guard_target = Zaa _ _ _ _); refine Zae ?_; (all_goals (try simp only [Zaa, kzz, kz11, kz12, maxL, Zad] at *)); all_goals omega)))
    refine Zas 9 (fun hl => ?_)
    have hreg : 0 ≤ s.inputs.getD (Int.toNat 0) 0 ∧ s.inputs.getD (Int.toNat 0) 0 ≤ 65535 := hl
    clear hl
    have hreg : 0 ≤ s.inputs.getD 0 0 ∧ s.inputs.getD 0 0 ≤ 65535 := hreg
    ((repeat' ((fail_if_success (show AWp _ _ _ (Code.region 29 _ _) _ _)); first | refine Zac ?_ | (refine Zab tok (by rfl) ?_; conv => whnf) | (refine @And.intro (Zaa _ _ _ _) _ ?_ ?_; rotate_left; (conv => whnf); rotate_right))); all_goals (try ((guard_target = Zaa _ _ _ _); refine Zae ?_; (first | refine And.intro (Zep rfl ?_) ?_ | skip); (all_goals (try simp only [Zaa, kzz, kz11, kz12, maxL, Zad] at *)); all_goals omega)))
    refine Za0 (Weak.fam (L := [jB, jF]) (tl := [(0, .bp jB 0), (1, .rp jF 5 (s.stack.length - 1) 0), (5, .bp (5, 0, 0) 0), (9, .int .u16 (s.inputs.getD 0 0))]) (hl := [((5, 0, 0), Zba (Zbf x))] ++ memL m (inM s)) (F := famW s.stack) [(jE, some (145, 0, 0))] rfl (fun c hc => ?_) ?_ ?_ ?_ keepE) ?_
    · rw [List.mem_singleton.1 (show c ∈ [(145, 0, 0)] from hc)]; exact .inl rfl
    · exact .cons (.bp rfl rfl) (.cons (.rp rfl rfl rfl) (.cons (.bp rfl rfl) (.cons (.imm rfl) .nil)))
    · refine .old rfl rfl (GB.one (GVs.imm rfl) (fun _ => rfl)) (.old rfl rfl (GB.one ?_ (fun e => by cases e)) (.old (b0 := Zc2 s.stack) rfl ?_ ?_ (.old rfl rfl (GB.rowI (Nat.le_of_eq ?_) (fun z hz => ?_)) (.old rfl rfl (Zbs _) .nil))))
      · refine (.cons (.rs rfl rfl rfl rfl) (.cons (.imm rfl) (.cons (.imm rfl) (.cons (.imm rfl) (.cons (.imm rfl) (.cons (.imm rfl) (.cons (.imm rfl) (.cons (.imm rfl) (.cons (.imm rfl) (.cons (.imm rfl) (.cons (.imm rfl) (.cons (.imm rfl) (.cons (.imm rfl) (.cons (.imm rfl) (.cons (.imm rfl) (.cons (.imm rfl) (.cons (.imm rfl) (.cons (.wk rfl (wk_drop hz ?_ (fun i => rfl))) (.cons (.rs rfl rfl rfl ?_) (.cons (.imm rfl) (.cons (.imm rfl) (.cons (.imm rfl) .nil))))))))))))))))))))))
        · simp
        · show s.events.length + 1 = (s.events ++ [_]).length
          simp
      · exact (congrArg (Option.map (Dv.mapB (kill jE))) (rfl : some (Zc2 s.stack) = some (Zc2 s.stack))).trans (by rw [Option.map_some, map_fr (ρ := kill jE) (fun _ => rfl) rfl])
      · refine GB_fr (l := s.stack) (fun _ _ => rfl) rfl (fun q hq => ?_) rfl
        exact Zcm hq
      · show (s.events ++ [_]).length = s.events.length + 1
        simp
      · have hz2 : z < s.events.length + 1 := by
          have : z < (s.events ++ [s.inputs.getD 0 0 + 65536]).length := hz
          simpa using this
        have e := appI (v := s.inputs.getD 0 0 + 65536) (F := fun i => [iv (s.events.getD i 0)]) rfl hz2 (show IntKind.i64.wrap (IntKind.i64.wrap (s.inputs.getD (Int.toNat 0) 0) + 65536) = _ by
          show IntKind.i64.wrap (IntKind.i64.wrap (s.inputs.getD 0 0) + 65536) = _
          rw [Zal (x := s.inputs.getD 0 0) (by omega) (by omega), Zal (by omega) (by omega)]) (fun i hi => rfl)
        simp only [allB, Zco, Bool.true_and, Bool.and_true, Bool.and_self, cond_true]
        exact ⟨by rw [show appR s.events.length (fun i => [iv (s.events.getD i 0)]) _ z = _ from e]; rfl, e⟩
    · refine Zft (fun _ _ => rfl) (fun q hq => ?_)
      refine killH_fam (i := jE) rfl ?_
      exact Za2 hq
    have hzz : x.dst.toNat < (topF s).regs.length := by omega
    have hft : (topF (inM s)) = topF s := rfl
    have hle : s.stack.length - 1 < (inM s).stack.length := by show s.stack.length - 1 < s.stack.length; omega
    have hdd : x.dst.toNat < (topF (inM s)).regs.length := hzz
    ((repeat' first | (refine Zap tok mix (by rfl) ?_; conv => whnf) | (refine @And.intro (Zaa _ _ _ _) _ ?_ ?_; rotate_left; (conv => whnf); rotate_right)); all_goals (try ((guard_target = Zaa _ _ _ _); refine Zae ?_; (all_goals (try simp only [Zaa, kzz, kz11, kz12, maxL, Zad] at *)); all_goals omega)))
    refine fAV (x := Zbc s.stack (s.stack.length - 1)) (y := .rs jT 1 0 (topF s).regs.length) (Zbb h rfl) ?_
    conv => whnf
    ((repeat' first | refine Zac ?_ | (refine Zab tok (by rfl) ?_; conv => whnf) | (refine Zaj ?_; conv => whnf) | (refine @And.intro (Zaa _ _ _ _) _ ?_ ?_; rotate_left; (conv => whnf); rotate_right)); all_goals (try ((guard_target = Zaa _ _ _ _); refine Zae ?_; (all_goals (try simp only [Zaa, kzz, kz11, kz12, maxL, Zad] at *)); all_goals omega)))
    refine ⟨_, srcT jE jT, rfl, ?_⟩
    rw [← and_assoc]
    refine ⟨leaveG (s := inM s) (g := frW (topF s) x.dst (s.inputs.getD 0 0)) (n' := s.stack.length) (F := frC s.stack) h rfl rfl (.inr (.inl rfl)) (.inr (.inr rfl)) rfl ?_ rfl (Nat.le_refl _) (fun q hq => rfl) ((frC_top h).trans (frO_W _ _ _ _)) rfl (Zd7 _) rfl (GB.rowI (Nat.le_of_eq (by simp [frW]; rfl)) (fun q hq => ⟨?_, ?_⟩)) (fun q hq => ?_), .bool rfl, keepT⟩
    · exact Zd6 (s := Zbu (inM s) (frW (topF s) x.dst (s.inputs.getD 0 0))) (Zc5 (s := inM s) h).symm rfl rfl rfl rfl
    · rw [Nat.zero_add, rowSet (l := (topF (inM s)).regs) hzz]; rfl
    · rw [Nat.zero_add]; exact rowSet (l := (topF s).regs) hzz
    · exact Za2 hq
  · exfalso; simp only [decide_eq_false_iff_not] at hb; omega
end Go.Proofs.YtoelbgjpmpoolaaGreat
namespace Go.Proofs.YtoelbgjpmpoolaaGreat
open Go Dv
set_option maxRecDepth 10000
set_option linter.unusedSimpArgs false
theorem c_mCellN (m : Zak) (s : Mach) (n : Int) (h32 : s.stack.length ≤ 32) (h : 16 ≤ n) : HG Tryz.prog LW 154 (mem m s) [.bp jB 0, .int .u16 n] .np (mem m (endM s 4 0)) := by
  refine Za6 tok Tryz.func154 rfl (by decide +kernel) (Nat.le_of_ble_eq_true rfl) ?_
  refine Zas 1 (fun hl => ?_)
  have hreg : 0 ≤ n ∧ n ≤ 65535 := hl
  clear hl
  have hw : IntKind.i64.wrap n = n := Zal (by omega) (by omega)
  (repeat' ((fail_if_success (show AWp _ _ _ (Code.region 2 _ _) _ _)); (fail_if_success (show AWp _ _ _ (Code.region 4 _ _) _ _)); first | refine Zac ?_ | (refine Zab tok (by rfl) ?_; conv => whnf) | (refine Zag ?_; conv => whnf) | refine Zaf rfl (fun hb => ?_) (fun hb => ?_)))
  · (repeat' (refine Zab tok (by rfl) ?_; conv => whnf))
    refine .inr ⟨_, _, _, uG (QH.tnM (by simp) (by simp) (c_mEnd m s 4 0) h32 (Zax rfl rfl rfl rfl (fun _ => rfl)) rfl (fun q hq => Zao hq)), ?_⟩
    conv => whnf
    (repeat' first | refine Zac ?_ | (refine Zab tok (by rfl) ?_; conv => whnf) | (refine Zaj ?_; conv => whnf))
    refine ⟨_, srcL [], rfl, ?_⟩
    rw [← and_assoc]
    exact ⟨Zdg (s := endM s 4 0) rfl rfl rfl (Zcc rfl rfl rfl) rfl rfl rfl (fun q hq => Za9 hq), .imm rfl, Zcs⟩
  · exfalso; rw [hw] at hb; simp only [decide_eq_false_iff_not] at hb; omega
theorem c_mCellY (m : Zak) (s : Mach) (n : Int) (hn : n < 16) : HG Tryz.prog LW 154 (mem m s) [.bp jB 0, .int .u16 n] (.bp jB (1 + n.toNat)) (mem m s) := by
  refine Za6 tok Tryz.func154 rfl (by decide +kernel) (Nat.le_of_ble_eq_true rfl) ?_
  refine Zas 1 (fun hl => ?_)
  have hreg : 0 ≤ n ∧ n ≤ 65535 := hl
  clear hl
  have hw : IntKind.i64.wrap n = n := Zal (by omega) (by omega)
  (repeat' ((fail_if_success (show AWp _ _ _ (Code.region 2 _ _) _ _)); (fail_if_success (show AWp _ _ _ (Code.region 4 _ _) _ _)); first | refine Zac ?_ | (refine Zab tok (by rfl) ?_; conv => whnf) | (refine Zag ?_; conv => whnf) | refine Zaf rfl (fun hb => ?_) (fun hb => ?_)))
  · exfalso; rw [hw] at hb; simp only [decide_eq_true_eq] at hb; omega
  clear hb
  ((repeat' first | (refine Zab tok (by rfl) ?_; conv => whnf) | (refine Zaj ?_; conv => whnf) | (refine @And.intro (Zaa _ _ _ _) _ ?_ ?_; rotate_left; (conv => whnf); rotate_right)); all_goals (try ((guard_target = Zaa _ _ _ _); refine Zae ?_; all_goals omega)))
  refine ⟨_, srcL [], rfl, ?_⟩
  rw [← and_assoc]
  refine ⟨Zdg rfl rfl rfl (Zcc rfl rfl rfl) rfl rfl rfl (fun q hq => Za2 hq), .cc ?_ rfl (.bp rfl rfl), Zcs⟩
  show AV.bp jB (0 + 0 + 1 + n.toNat * 1) = AV.bp jB (1 + n.toNat)
  rw [Nat.mul_one]
end Go.Proofs.YtoelbgjpmpoolaaGreat
namespace Go.Proofs.YtoelbgjpmpoolaaGreat
open Go Dv
set_option maxRecDepth 10000
set_option linter.unusedSimpArgs false
set_option maxHeartbeats 4000000 in
theorem c_mIns9n (m : Zak) (s : Mach) (x : Ins) (ho : x.op = 9) (h : 0 < s.stack.length) (h32 : s.stack.length ≤ 32) (ha : 0 ≤ x.a ∧ x.a < (topF s).regs.length) (h16 : 16 ≤ (topF s).regs.getD x.a.toNat 0) :
    HG Tryz.prog [jB, jF] 113 (mem m s) [.bp jB 0, .rp jF 5 (s.stack.length - 1) 0, .agg (Zbf x)] (.bool false) (mem m (endM s 4 0)) := by
  refine Za6 tok Tryz.func113 rfl (by decide +kernel) (Nat.le_of_ble_eq_true rfl) ?_
  have hmx : maxL = 4294967296 := rfl
  have hC : ∀ y, y = (topF s).regs.getD x.a.toNat 0 → HG Tryz.prog LW 154 (mem m s) [.bp jB 0, .int .u16 y] .np (mem m (endM s 4 0)) := fun y e => by rw [e]; exact c_mCellN m s _ h32 h16
  (repeat' ((fail_if_success (show AWp _ _ _ (Code.region 8 _ _) _ _)); (fail_if_success (show AWp _ _ _ (Code.region 12 _ _) _ _)); first | refine Zac ?_ | (refine Zab tok (by rfl) ?_; conv => whnf) | refine Zai ?_ | refine Zaf rfl (fun hb => ?_) (fun hb => ?_)))
  · clear hb
    ((repeat' first | (refine Zap tok mix (by rfl) ?_; conv => whnf) | (refine @And.intro (Zaa _ _ _ _) _ ?_ ?_; rotate_left; (conv => whnf); rotate_right)); all_goals (try ((guard_target = Zaa _ _ _ _); refine Zae ?_; (all_goals (try simp only [Zaa, kzz, kz11, kz12, maxL, Zad] at *)); all_goals omega)))
    refine fAV (x := Zbc s.stack (s.stack.length - 1)) (y := .rs jT 1 0 (topF s).regs.length) (Zbb h rfl) ?_
    conv => whnf
    ((repeat' (refine @And.intro (Zaa _ _ _ _) _ ?_ ?_; rotate_left; (conv => whnf); rotate_right)); all_goals (try ((guard_target = Zaa _ _ _ _); refine Zae ?_; (all_goals (try simp only [Zaa, kzz, kz11, kz12, maxL, Zad] at *)); all_goals omega)))
    refine .inr ⟨_, _, _, uG (QH.tnM (by simp) (by simp) (hC _ (by rw [Nat.zero_add])) h32 (Zax rfl rfl rfl rfl (fun _ => rfl)) rfl (fun q hq => Zao hq)), ?_⟩
    conv => whnf
    (repeat' ((fail_if_success (show AWp _ _ _ (Code.region 9 _ _) _ _)); refine Zac ?_))
    refine AWp_hand tok [_] _ [] rfl (by rfl) (by rfl) rfl ?_
    conv => whnf
    intro X ι a w s0
    refine ⟨⟨.bool true, .none, []⟩, ptrNil_ok s0 rfl Tryz.underlying187 rfl (.inl ⟨rfl, rfl⟩), rfl, ?_⟩
    conv => whnf
    (repeat' ((fail_if_success (show AWp _ _ _ (Code.region 10 _ _) _ _)); (fail_if_success (show AWp _ _ _ (Code.region 11 _ _) _ _)); first | refine Zac ?_ | (refine Zag ?_; conv => whnf) | refine Zaf rfl (fun hb => ?_) (fun hb => ?_)))
    all_goals (try (exfalso; cases hb; done))
    clear hb
    (repeat' first | (refine Zab tok (by rfl) ?_; conv => whnf) | (refine Zaj ?_; conv => whnf))
    refine ⟨_, srcL [], rfl, ?_⟩
    rw [← and_assoc]
    exact ⟨Zdg (s := endM s 4 0) rfl rfl rfl (Zcc rfl rfl rfl) rfl rfl rfl (fun q hq => Za9 hq), .bool rfl, Zcs⟩
  · exfalso; simp only [decide_eq_false_iff_not] at hb; omega
end Go.Proofs.YtoelbgjpmpoolaaGreat
namespace Go.Proofs.YtoelbgjpmpoolaaGreat
open Go Dv
set_option maxRecDepth 10000
set_option linter.unusedSimpArgs false
set_option maxHeartbeats 4000000 in
theorem c_mIns9y (m : Zak) (s : Mach) (x : Ins) (k : Nat) (ho : x.op = 9) (h : 0 < s.stack.length) (h32 : s.stack.length ≤ 32) (ha : 0 ≤ x.a ∧ x.a < (topF s).regs.length) (hd : 0 ≤ x.dst ∧ x.dst < (topF s).regs.length) (hv : (topF s).regs.getD x.a.toNat 0 < 16) (hk : ((topF s).regs.getD x.a.toNat 0).toNat = k) :
    HG Tryz.prog [jB, jF] 113 (mem m s) [.bp jB 0, .rp jF 5 (s.stack.length - 1) 0, .agg (Zbf x)] (.bool true) (mem m (Zbu s (frW (topF s) x.dst (s.cells.getD k 0)))) := by
  refine Za6 tok Tryz.func113 rfl (by decide +kernel) (Nat.le_of_ble_eq_true rfl) ?_
  have hmx : maxL = 4294967296 := rfl
  have hC : ∀ y, y = (topF s).regs.getD x.a.toNat 0 → HG Tryz.prog LW 154 (mem m s) [.bp jB 0, .int .u16 y] (.bp jB (1 + k)) (mem m s) := fun y e => by rw [e, ← hk]; exact c_mCellY m s _ hv
  (repeat' ((fail_if_success (show AWp _ _ _ (Code.region 8 _ _) _ _)); (fail_if_success (show AWp _ _ _ (Code.region 12 _ _) _ _)); first | refine Zac ?_ | (refine Zab tok (by rfl) ?_; conv => whnf) | refine Zai ?_ | refine Zaf rfl (fun hb => ?_) (fun hb => ?_)))
  · clear hb
    ((repeat' first | (refine Zap tok mix (by rfl) ?_; conv => whnf) | (refine @And.intro (Zaa _ _ _ _) _ ?_ ?_; rotate_left; (conv => whnf); rotate_right)); all_goals (try ((guard_target = Zaa _ _ _ _); refine Zae ?_; (all_goals (try simp only [Zaa, kzz, kz11, kz12, maxL, Zad] at *)); all_goals omega)))
    refine fAV (x := Zbc s.stack (s.stack.length - 1)) (y := .rs jT 1 0 (topF s).regs.length) (Zbb h rfl) ?_
    conv => whnf
    ((repeat' (refine @And.intro (Zaa _ _ _ _) _ ?_ ?_; rotate_left; (conv => whnf); rotate_right)); all_goals (try ((guard_target = Zaa _ _ _ _); refine Zae ?_; (all_goals (try simp only [Zaa, kzz, kz11, kz12, maxL, Zad] at *)); all_goals omega)))
    refine .inr ⟨_, _, _, uG (QH.tnM (by simp) (by simp) (hC _ (by rw [Nat.zero_add])) h32 (Zax rfl rfl rfl rfl (fun _ => rfl)) rfl (fun q hq => Zao hq)), ?_⟩
    conv => whnf
    (repeat' ((fail_if_success (show AWp _ _ _ (Code.region 9 _ _) _ _)); refine Zac ?_))
    refine AWp_hand tok [_] _ [] rfl (by rfl) (by rfl) rfl ?_
    conv => whnf
    intro X ι a w s0
    refine ⟨⟨.bool false, .none, []⟩, ptrNil_ok s0 rfl Tryz.underlying187 rfl (.inr ⟨⟨_, _, rfl⟩, rfl⟩), rfl, ?_⟩
    conv => whnf
    (repeat' ((fail_if_success (show AWp _ _ _ (Code.region 10 _ _) _ _)); (fail_if_success (show AWp _ _ _ (Code.region 11 _ _) _ _)); first | refine Zac ?_ | (refine Zag ?_; conv => whnf) | refine Zaf rfl (fun hb => ?_) (fun hb => ?_)))
    all_goals (try (exfalso; cases hb; done))
    clear hb
    have hzz : x.dst.toNat < (topF s).regs.length := by omega
    have hk16 : k = 0 ∨ k = 1 ∨ k = 2 ∨ k = 3 ∨ k = 4 ∨ k = 5 ∨ k = 6 ∨ k = 7 ∨ k = 8 ∨ k = 9 ∨ k = 10 ∨ k = 11 ∨ k = 12 ∨ k = 13 ∨ k = 14 ∨ k = 15 := by omega
    clear hC hk
    rcases hk16 with rfl | rfl | rfl | rfl | rfl | rfl | rfl | rfl | rfl | rfl | rfl | rfl | rfl | rfl | rfl | rfl
    all_goals
      ((repeat' first | (refine Zap tok mix (by rfl) ?_; conv => whnf) | (refine @And.intro (Zaa _ _ _ _) _ ?_ ?_; rotate_left; (conv => whnf); rotate_right)); all_goals (try ((guard_target = Zaa _ _ _ _); refine Zae ?_; (all_goals (try simp only [Zaa, kzz, kz11, kz12, maxL, Zad] at *)); all_goals omega)))
      refine fAV (x := Zbc s.stack (s.stack.length - 1)) (y := .rs jT 1 0 (topF s).regs.length) (Zbb h rfl) ?_
      conv => whnf
      ((repeat' first | refine Zac ?_ | (refine Zab tok (by rfl) ?_; conv => whnf) | (refine Zaj ?_; conv => whnf) | (refine @And.intro (Zaa _ _ _ _) _ ?_ ?_; rotate_left; (conv => whnf); rotate_right)); all_goals (try ((guard_target = Zaa _ _ _ _); refine Zae ?_; (all_goals (try simp only [Zaa, kzz, kz11, kz12, maxL, Zad] at *)); all_goals omega)))
      refine ⟨_, srcT jE jT, rfl, ?_⟩
      rw [← and_assoc]
      refine ⟨leaveG (s := s) (g := frW (topF s) x.dst (s.cells.getD _ 0)) (n' := s.stack.length) (F := frC s.stack) h rfl rfl (.inr (.inl rfl)) (.inr (.inr rfl)) rfl ?_ rfl (Nat.le_refl _) (fun q hq => rfl) ((frC_top h).trans (frO_W _ _ _ _)) rfl (Zd7 _) rfl (GB.rowI (Nat.le_of_eq (by simp [frW])) (fun q hq => ⟨?_, ?_⟩)) (fun q hq => ?_), .bool rfl, keepT⟩
      · exact Zd6 (s := Zbu s (frW (topF s) x.dst (s.cells.getD _ 0))) (Zc5 (s := s) h).symm rfl rfl rfl rfl
      · rw [Nat.zero_add, rowSet (l := (topF s).regs) hzz]; rfl
      · rw [Nat.zero_add]; exact rowSet (l := (topF s).regs) hzz
      · exact Za9 hq
  · exfalso; simp only [decide_eq_false_iff_not] at hb; omega
end Go.Proofs.YtoelbgjpmpoolaaGreat
namespace Go.Proofs.YtoelbgjpmpoolaaGreat
open Go Dv
set_option maxRecDepth 10000
set_option linter.unusedSimpArgs false
set_option maxHeartbeats 4000000 in
theorem c_mIns10n (m : Zak) (s : Mach) (x : Ins) (ho : x.op = 10) (h : 0 < s.stack.length) (h32 : s.stack.length ≤ 32) (ha : 0 ≤ x.a ∧ x.a < (topF s).regs.length) (h16 : 16 ≤ (topF s).regs.getD x.a.toNat 0) :
    HG Tryz.prog [jB, jF] 113 (mem m s) [.bp jB 0, .rp jF 5 (s.stack.length - 1) 0, .agg (Zbf x)] (.bool false) (mem m (endM s 4 0)) := by
  refine Za6 tok Tryz.func113 rfl (by decide +kernel) (Nat.le_of_ble_eq_true rfl) ?_
  have hmx : maxL = 4294967296 := rfl
  have hC : ∀ y, y = (topF s).regs.getD x.a.toNat 0 → HG Tryz.prog LW 154 (mem m s) [.bp jB 0, .int .u16 y] .np (mem m (endM s 4 0)) := fun y e => by rw [e]; exact c_mCellN m s _ h32 h16
  (repeat' ((fail_if_success (show AWp _ _ _ (Code.region 8 _ _) _ _)); (fail_if_success (show AWp _ _ _ (Code.region 12 _ _) _ _)); first | refine Zac ?_ | (refine Zab tok (by rfl) ?_; conv => whnf) | refine Zai ?_ | refine Zaf rfl (fun hb => ?_) (fun hb => ?_)))
  · exfalso; simp only [decide_eq_true_eq] at hb; omega
  clear hb
  (repeat' ((fail_if_success (show AWp _ _ _ (Code.region 13 _ _) _ _)); (fail_if_success (show AWp _ _ _ (Code.region 17 _ _) _ _)); first | refine Zac ?_ | (refine Zab tok (by rfl) ?_; conv => whnf) | refine Zaf rfl (fun hb => ?_) (fun hb => ?_)))
  · clear hb
    ((repeat' first | (refine Zap tok mix (by rfl) ?_; conv => whnf) | (refine @And.intro (Zaa _ _ _ _) _ ?_ ?_; rotate_left; (conv => whnf); rotate_right)); all_goals (try ((guard_target = Zaa _ _ _ _); refine Zae ?_; (all_goals (try simp only [Zaa, kzz, kz11, kz12, maxL, Zad] at *)); all_goals omega)))
    refine fAV (x := Zbc s.stack (s.stack.length - 1)) (y := .rs jT 1 0 (topF s).regs.length) (Zbb h rfl) ?_
    conv => whnf
    ((repeat' (refine @And.intro (Zaa _ _ _ _) _ ?_ ?_; rotate_left; (conv => whnf); rotate_right)); all_goals (try ((guard_target = Zaa _ _ _ _); refine Zae ?_; (all_goals (try simp only [Zaa, kzz, kz11, kz12, maxL, Zad] at *)); all_goals omega)))
    refine .inr ⟨_, _, _, uG (QH.tnM (by simp) (by simp) (hC _ (by rw [Nat.zero_add])) h32 (Zax rfl rfl rfl rfl (fun _ => rfl)) rfl (fun q hq => Zao hq)), ?_⟩
    conv => whnf
    (repeat' ((fail_if_success (show AWp _ _ _ (Code.region 14 _ _) _ _)); refine Zac ?_))
    refine AWp_hand tok [_] _ [] rfl (by rfl) (by rfl) rfl ?_
    conv => whnf
    intro X ι a w s0
    refine ⟨⟨.bool true, .none, []⟩, ptrNil_ok s0 rfl Tryz.underlying187 rfl (.inl ⟨rfl, rfl⟩), rfl, ?_⟩
    conv => whnf
    (repeat' ((fail_if_success (show AWp _ _ _ (Code.region 15 _ _) _ _)); (fail_if_success (show AWp _ _ _ (Code.region 16 _ _) _ _)); first | refine Zac ?_ | (refine Zag ?_; conv => whnf) | refine Zaf rfl (fun hb => ?_) (fun hb => ?_)))
    all_goals (try (exfalso; cases hb; done))
    clear hb
    (repeat' first | (refine Zab tok (by rfl) ?_; conv => whnf) | (refine Zaj ?_; conv => whnf))
    refine ⟨_, srcL [], rfl, ?_⟩
    rw [← and_assoc]
    exact ⟨Zdg (s := endM s 4 0) rfl rfl rfl (Zcc rfl rfl rfl) rfl rfl rfl (fun q hq => Za9 hq), .bool rfl, Zcs⟩
  · exfalso; simp only [decide_eq_false_iff_not] at hb; omega
set_option maxHeartbeats 4000000 in
theorem c_mIns10y (m : Zak) (s : Mach) (x : Ins) (k : Nat) (ho : x.op = 10) (h : 0 < s.stack.length) (h32 : s.stack.length ≤ 32) (ha : 0 ≤ x.a ∧ x.a < (topF s).regs.length) (hd : 0 ≤ x.b ∧ x.b < (topF s).regs.length) (hcl : s.cells.length = 16) (hv : (topF s).regs.getD x.a.toNat 0 < 16) (hk : ((topF s).regs.getD x.a.toNat 0).toNat = k) :
    HG Tryz.prog [jB, jF] 113 (mem m s) [.bp jB 0, .rp jF 5 (s.stack.length - 1) 0, .agg (Zbf x)] (.bool true) (mem m (stM s k ((topF s).regs.getD x.b.toNat 0))) := by
  refine Za6 tok Tryz.func113 rfl (by decide +kernel) (Nat.le_of_ble_eq_true rfl) ?_
  have hmx : maxL = 4294967296 := rfl
  have hC : ∀ y, y = (topF s).regs.getD x.a.toNat 0 → HG Tryz.prog LW 154 (mem m s) [.bp jB 0, .int .u16 y] (.bp jB (1 + k)) (mem m s) := fun y e => by rw [e, ← hk]; exact c_mCellY m s _ hv
  (repeat' ((fail_if_success (show AWp _ _ _ (Code.region 8 _ _) _ _)); (fail_if_success (show AWp _ _ _ (Code.region 12 _ _) _ _)); first | refine Zac ?_ | (refine Zab tok (by rfl) ?_; conv => whnf) | refine Zai ?_ | refine Zaf rfl (fun hb => ?_) (fun hb => ?_)))
  · exfalso; simp only [decide_eq_true_eq] at hb; omega
  clear hb
  (repeat' ((fail_if_success (show AWp _ _ _ (Code.region 13 _ _) _ _)); (fail_if_success (show AWp _ _ _ (Code.region 17 _ _) _ _)); first | refine Zac ?_ | (refine Zab tok (by rfl) ?_; conv => whnf) | refine Zaf rfl (fun hb => ?_) (fun hb => ?_)))
  · clear hb
    ((repeat' first | (refine Zap tok mix (by rfl) ?_; conv => whnf) | (refine @And.intro (Zaa _ _ _ _) _ ?_ ?_; rotate_left; (conv => whnf); rotate_right)); all_goals (try ((guard_target = Zaa _ _ _ _); refine Zae ?_; (all_goals (try simp only [Zaa, kzz, kz11, kz12, maxL, Zad] at *)); all_goals omega)))
    refine fAV (x := Zbc s.stack (s.stack.length - 1)) (y := .rs jT 1 0 (topF s).regs.length) (Zbb h rfl) ?_
    conv => whnf
    ((repeat' (refine @And.intro (Zaa _ _ _ _) _ ?_ ?_; rotate_left; (conv => whnf); rotate_right)); all_goals (try ((guard_target = Zaa _ _ _ _); refine Zae ?_; (all_goals (try simp only [Zaa, kzz, kz11, kz12, maxL, Zad] at *)); all_goals omega)))
    refine .inr ⟨_, _, _, uG (QH.tnM (by simp) (by simp) (hC _ (by rw [Nat.zero_add])) h32 (Zax rfl rfl rfl rfl (fun _ => rfl)) rfl (fun q hq => Zao hq)), ?_⟩
    conv => whnf
    (repeat' ((fail_if_success (show AWp _ _ _ (Code.region 14 _ _) _ _)); refine Zac ?_))
    refine AWp_hand tok [_] _ [] rfl (by rfl) (by rfl) rfl ?_
    conv => whnf
    intro X ι a w s0
    refine ⟨⟨.bool false, .none, []⟩, ptrNil_ok s0 rfl Tryz.underlying187 rfl (.inr ⟨⟨_, _, rfl⟩, rfl⟩), rfl, ?_⟩
    conv => whnf
    (repeat' ((fail_if_success (show AWp _ _ _ (Code.region 15 _ _) _ _)); (fail_if_success (show AWp _ _ _ (Code.region 16 _ _) _ _)); first | refine Zac ?_ | (refine Zag ?_; conv => whnf) | refine Zaf rfl (fun hb => ?_) (fun hb => ?_)))
    all_goals (try (exfalso; cases hb; done))
    clear hb
    have hzz : x.b.toNat < (topF s).regs.length := by omega
    have hk16 : k = 0 ∨ k = 1 ∨ k = 2 ∨ k = 3 ∨ k = 4 ∨ k = 5 ∨ k = 6 ∨ k = 7 ∨ k = 8 ∨ k = 9 ∨ k = 10 ∨ k = 11 ∨ k = 12 ∨ k = 13 ∨ k = 14 ∨ k = 15 := by omega
    clear hC hk
    rcases hk16 with rfl | rfl | rfl | rfl | rfl | rfl | rfl | rfl | rfl | rfl | rfl | rfl | rfl | rfl | rfl | rfl
    all_goals
      ((repeat' first | (refine Zap tok mix (by rfl) ?_; conv => whnf) | (refine @And.intro (Zaa _ _ _ _) _ ?_ ?_; rotate_left; (conv => whnf); rotate_right)); all_goals (try ((guard_target = Zaa _ _ _ _); refine Zae ?_; (all_goals (try simp only [Zaa, kzz, kz11, kz12, maxL, Zad] at *)); all_goals omega)))
      refine fAV (x := Zbc s.stack (s.stack.length - 1)) (y := .rs jT 1 0 (topF s).regs.length) (Zbb h rfl) ?_
      conv => whnf
      ((repeat' first | refine Zac ?_ | (refine Zab tok (by rfl) ?_; conv => whnf) | (refine Zaj ?_; conv => whnf) | (refine @And.intro (Zaa _ _ _ _) _ ?_ ?_; rotate_left; (conv => whnf); rotate_right)); all_goals (try ((guard_target = Zaa _ _ _ _); refine Zae ?_; (all_goals (try simp only [Zaa, kzz, kz11, kz12, maxL, Zad] at *)); all_goals omega)))
      refine ⟨_, srcL [], rfl, ?_⟩
      rw [← and_assoc]
      refine ⟨Zdg (s := stM s _ ((topF s).regs.getD x.b.toNat 0)) rfl rfl rfl (GB.one ?_ (fun e => by cases e)) rfl rfl rfl (fun q hq => Za9 hq), .bool rfl, Zcs⟩
      show GVs _ _ _ _ (macC m (stM s _ ((topF s).regs.getD x.b.toNat 0)))
      refine .cons (.rs rfl rfl rfl rfl) ?_
      repeat' first | refine GVs.cons (.wk rfl (wkc (by decide))) ?_ | refine GVs.cons (.wk rfl (by rw [Nat.zero_add]; exact wks (by omega))) ?_ | refine GVs.cons (.imm rfl) ?_ | refine GVs.cons (.rs rfl rfl rfl rfl) ?_ | exact .nil
  · exfalso; simp only [decide_eq_false_iff_not] at hb; omega
end Go.Proofs.YtoelbgjpmpoolaaGreat
namespace Go.Proofs.YtoelbgjpmpoolaaGreat
open Go Dv
set_option maxRecDepth 10000
set_option linter.unusedSimpArgs false
theorem LW_keepL {tl : List (Dv.Id × Zam)} {F : Zan} (hB : (orH (Zaz tl) F jB).isSome = true := by rfl) (hF : (orH (Zaz tl) F jF).isSome = true := by rfl) : ∀ i ∈ LW, Zeb i = true → (orH (Zaz tl) F i).isSome = true ∧ srcL [] i = some i := fun i hi _ => by
  rcases List.mem_cons.1 hi with rfl | hi
  · exact ⟨hB, rfl⟩
  · rw [List.mem_singleton.1 hi]; exact ⟨hF, rfl⟩
theorem big_far {m : Zak} {p : Mach} {h : Zan} {q : Nat} (hp : p.stack.length ≤ 32) (hq : 32 ≤ q) (hh : h (945, 0, q) = none) : bigH dK (mem m p) h (945, 0, q) = none := by
  unfold bigH
  rw [Zdu, Zao (by omega), hh]
  cases memI (945, 0, q) dK <;> rfl
theorem Zbm {m : Zak} {p : Mach} {h : Zan} {q : Nat} (hh : 32 ≤ q → h (945, 0, q) = none) : bigH dK (mem m p) h (945, 0, q) = famW p.stack (945, 0, q) := by
  unfold bigH
  rw [Zdu]
  cases e : famW p.stack (945, 0, q) with
  | some b => rfl
  | none =>
    by_cases hq : q < 32
    · rw [show memI (945, 0, q) dK = true from Zb6.2 (List.mem_cons_of_mem _ (List.mem_cons_of_mem _ (Zf2.2 ⟨q, hq, rfl⟩)))]; rfl
    · rw [hh (by omega)]; cases memI (945, 0, q) dK <;> rfl
set_option maxHeartbeats 4000000 in
theorem c_mAns1 (m : Zak) (s : Mach) (w : Int) (h1 : s.stack.length = 1) :
    HG Tryz.prog LW 114 (mem m s) [.bp jB 0, .int .u16 w] (.tup []) (mem m (endM (popM s) 1 w)) := by
  refine Za6 tok Tryz.func114 rfl (by decide +kernel) (Nat.le_of_ble_eq_true rfl) ?_
  have hmx : maxL = 4294967296 := rfl
  have hpl := Zcz (s := s)
  (repeat' ((fail_if_success (show AWp _ _ _ (Code.region 1 _ _) _ _)); first | refine Zac ?_ | (refine Zab tok (by rfl) ?_; conv => whnf)))
  refine .inr ⟨_, _, _, uG (QH.tnM (by simp) (by simp) (c_mPop m s (by omega) (by omega)) (by omega) (Zax rfl rfl rfl rfl (fun _ => rfl)) rfl (fun q hq => Zao hq)), ?_⟩
  conv => whnf
  (repeat' ((fail_if_success (show AWp _ _ _ (Code.region 2 _ _) _ _)); (fail_if_success (show AWp _ _ _ (Code.region 3 _ _) _ _)); first | refine Zac ?_ | (refine Zab tok (by rfl) ?_; conv => whnf) | (refine Zag ?_; conv => whnf) | refine Zaf rfl (fun hb => ?_) (fun hb => ?_)))
  · (repeat' (refine Zab tok (by rfl) ?_; conv => whnf))
    refine .inr ⟨_, _, _, uG (QH.tnM (by simp) (by simp) (c_mEnd m (popM s) 1 w) (by omega) (Zax rfl rfl rfl rfl (fun q => Zbm (fun hq => Zao (by omega)))) rfl (fun q hq => (Zbm (fun hq => Zao (by omega))).trans (Zao hq))), ?_⟩
    conv => whnf
    (repeat' (refine Zaj ?_; conv => whnf))
    refine ⟨_, srcL [], rfl, ?_⟩
    rw [← and_assoc]
    exact ⟨Zdg (s := endM (popM s) 1 w) rfl rfl rfl (Zcc rfl rfl rfl) rfl rfl rfl (fun q hq => Za9 hq), .tup .nil, Zcs⟩
  · exfalso; rw [hpl, h1] at hb; cases hb
set_option maxHeartbeats 4000000 in
theorem c_mAns2 (m : Zak) (s p : Mach) (f : Zaw) (w d : Int) (hp : popM s = p) (hf : topF p = f) (h2 : 1 < s.stack.length) (h32 : s.stack.length ≤ 32) (hF : OkF m f) (hn : endB m f = false) (hdd : ((Zau m f).ins.getD f.at_.toNat default).dst = d) (hd : 0 ≤ d ∧ d < f.regs.length) (hat : f.at_ < 1000000) :
    HG Tryz.prog LW 114 (mem m s) [.bp jB 0, .int .u16 w] (.tup []) (mem m (Zbu p { frW f d w with at_ := f.at_ + 1 })) := by
  refine Za6 tok Tryz.func114 rfl (by decide +kernel) (Nat.le_of_ble_eq_true rfl) ?_
  have hmx : maxL = 4294967296 := rfl
  have hpl : p.stack.length = s.stack.length - 1 := by rw [← hp]; exact Zcz
  have hP := c_mPop m s (by omega) (by omega)
  rw [hp] at hP
  have hft : p.stack.getD (p.stack.length - 1) default = f := hf
  have hB : HG Tryz.prog LW 112 (mem m p) [.bp jB 0, .rp jF 5 (p.stack.length - 1) 0] (.agg (Zbl (Zau m f))) (mem m p) := by
    have := Zda m p (p.stack.length - 1) (by omega) (by rw [hft]; exact hF)
    rw [hft] at this; exact this
  have hE : ¬ f.at_ = (Zau m f).ins.length := fun e => by
    have : endB m f = true := decide_eq_true e
    rw [hn] at this; cases this
  have hgen : ∃ b, Zau m f = b := ⟨_, rfl⟩
  obtain ⟨b, hbe⟩ := hgen
  have a0 := hF.a0
  have a1 := hF.a1
  rw [hbe] at hB hE hdd a1
  have hp0 : 0 < p.stack.length := by omega
  (repeat' ((fail_if_success (show AWp _ _ _ (Code.region 1 _ _) _ _)); first | refine Zac ?_ | (refine Zab tok (by rfl) ?_; conv => whnf)))
  refine .inr ⟨_, _, _, uG (QH.tnM (by simp) (by simp) hP (by omega) (Zax rfl rfl rfl rfl (fun _ => rfl)) rfl (fun q hq => Zao hq)), ?_⟩
  conv => whnf
  (repeat' ((fail_if_success (show AWp _ _ _ (Code.region 2 _ _) _ _)); (fail_if_success (show AWp _ _ _ (Code.region 3 _ _) _ _)); first | refine Zac ?_ | (refine Zab tok (by rfl) ?_; conv => whnf) | (refine Zag ?_; conv => whnf) | refine Zaf rfl (fun hb => ?_) (fun hb => ?_)))
  · exfalso; simp only [decide_eq_true_eq] at hb; omega
  clear hb
  (repeat' ((fail_if_success (show AWp _ _ _ (Code.region 4 _ _) _ _)); (refine Zab tok (by rfl) ?_; conv => whnf)))
  refine .inr ⟨_, _, _, uG (QH.tnM (by simp) (by simp) (Zfb m p hp0 (by omega)) (by omega) (Zax rfl rfl rfl rfl (fun q => Zbm (fun hq => Zao (by omega)))) rfl (fun q hq => (Zbm (fun hq => Zao (by omega))).trans (Zao hq))), ?_⟩
  conv => whnf
  (repeat' ((fail_if_success (show AWp _ _ _ (Code.region 5 _ _) _ _)); first | refine Zac ?_ | (refine Zab tok (by rfl) ?_; conv => whnf)))
  refine .inr ⟨_, _, _, uG (QH.tnM (by simp) (by simp) hB (by omega) (Zax rfl rfl rfl rfl (fun q => Zbm (fun hq => big_far (by omega) hq (Zao (by omega))))) rfl (fun q hq => (Zbm (fun hq => big_far (by omega) hq (Zao (by omega)))).trans (Zao hq))), ?_⟩
  conv => whnf
  ((repeat' ((fail_if_success (show AWp _ _ _ (Code.region 6 _ _) _ _)); (fail_if_success (show AWp _ _ _ (Code.region 8 _ _) _ _)); first | refine Zac ?_ | (refine Zap tok mix (by rfl) ?_; conv => whnf) | (refine Zag ?_; conv => whnf) | refine Zaf rfl (fun hb => ?_) (fun hb => ?_) | (refine @And.intro (Zaa _ _ _ _) _ ?_ ?_; rotate_left; (conv => whnf); rotate_right))); all_goals (try ((guard_target = Zaa _ _ _ _); refine Zae ?_; (all_goals (try simp only [Zaa, kzz, kz11, kz12, maxL, Zad] at *)); all_goals omega)))
  · clear hb
    refine Za0 (Weak.fam (L := LW) (tl := [(0, .bp jB 0), (1, .int .u16 w), (4, .rp jF 5 (p.stack.length - 1) 0), (5, .bp (5, 0, 0) 0)]) (hl := [((5, 0, 0), Zba (Zbl b))] ++ memL m p) (F := famW p.stack) [] rfl (fun c hc => by cases hc) ?_ ?_ ?_ LW_keepL) ?_
    · exact .cons (.bp rfl rfl) (.cons (.imm rfl) (.cons (.rp rfl rfl rfl) (.cons (.bp rfl rfl) .nil)))
    · exact .old rfl rfl (GB.one (GVs.imm rfl) (fun _ => rfl)) (Zci rfl rfl rfl rfl (fun _ => rfl) rfl rfl rfl rfl rfl rfl rfl (fun q hq => Zcm hq))
    · exact Zft (fun _ _ => rfl) (fun q hq => Za9 hq)
    have hle : p.stack.length - 1 < p.stack.length := by omega
    have hzz : d.toNat < (p.stack.getD (p.stack.length - 1) default).regs.length := by rw [hft]; omega
    have hat1 : (p.stack.getD (p.stack.length - 1) default).at_.toNat < b.ins.length := by rw [hft]; omega
    have hat0 : 0 ≤ (p.stack.getD (p.stack.length - 1) default).at_ := by rw [hft]; omega
    have hdl : 0 ≤ (b.ins.getD (p.stack.getD (p.stack.length - 1) default).at_.toNat default).dst ∧ (b.ins.getD (p.stack.getD (p.stack.length - 1) default).at_.toNat default).dst.toNat < (topF p).regs.length := by rw [hft, hdd, hf]; omega
    ((repeat' first | (refine Zap tok mix (by rfl) ?_; conv => whnf) | (refine @And.intro (Zaa _ _ _ _) _ ?_ ?_; rotate_left; (conv => whnf); rotate_right)); all_goals (try ((guard_target = Zaa _ _ _ _); refine Zae ?_; (all_goals (try simp only [Zaa, kzz, kz11, kz12, maxL, Zad] at *)); all_goals omega)))
    refine fAV (x := Zbc p.stack (p.stack.length - 1)) (y := .rs jT 1 0 (topF p).regs.length) (Zbb hp0 rfl) ?_
    conv => whnf
    ((repeat' first | refine Zac ?_ | (refine Zab tok (by rfl) ?_; conv => whnf) | (refine @And.intro (Zaa _ _ _ _) _ ?_ ?_; rotate_left; (conv => whnf); rotate_right)); all_goals (try ((guard_target = Zaa _ _ _ _); refine Zae ?_; (all_goals (try simp only [Zaa, kzz, kz11, kz12, maxL, Zad] at *)); all_goals omega)))
    refine fAV (x := Zbc p.stack (p.stack.length - 1)) (y := .rs jT 1 0 (topF p).regs.length) (Zbb hp0 rfl) ?_
    conv => whnf
    (repeat' (refine Zaj ?_; conv => whnf))
    refine ⟨_, srcT jE jT, rfl, ?_⟩
    rw [← and_assoc]
    refine ⟨leaveG (s := p) (g := { frW f d w with at_ := f.at_ + 1 }) (n' := p.stack.length) hp0 rfl rfl (.inr (.inl rfl)) (.inr (.inr rfl)) rfl ?_ rfl (Nat.le_refl _) (fun q hq => ?_) ?_ rfl (Zd7 _) rfl (GB.rowI (Nat.le_of_eq (by simp [frW, hf])) (fun q hq => ⟨?_, ?_⟩)) (fun q hq => ?_), .tup .nil, keepT⟩
    · exact Zd6 (s := Zbu p { frW f d w with at_ := f.at_ + 1 }) (Zc5 (s := p) hp0).symm rfl rfl rfl rfl
    · exact Zcv (by omega)
    · refine Zdi.trans ?_
      rw [hft, hf, Zal (by omega) (by omega)]
      simp [frO, frW]
    · rw [Nat.zero_add, hft, hdd, rowSet (l := (topF p).regs) (by rw [hf]; omega)]; rfl
    · rw [Nat.zero_add, hft, hdd, rowSet (l := (topF p).regs) (by rw [hf]; omega), hf]; rfl
    · exact Za2 hq
  · exfalso
    rw [hft] at hb
    simp only [decide_eq_false_iff_not] at hb
    omega
end Go.Proofs.YtoelbgjpmpoolaaGreat
