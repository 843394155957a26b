/- no call of a small function is left, but of one in itself, in a block that would be too long, or in a function that would have too many places; all ends stay -/
import Derived.Test.YtmanpbgaihdalaaDvc3
import Derived.Test.YtmanpbgaihdalaaLawInlineLeft2
import Derived.Test.YtmanpbgaihdalaaRows
import Derived.WalkKit
import Derived.ProofKit
import Derived.OpenShut
import Derived.JoinedCond
set_option linter.unusedVariables false
set_option linter.unusedSimpArgs false
set_option linter.unnecessarySimpa false
namespace Go.Proofs.Ytmanpbgaihdalaa
open Go Dv
set_option maxRecDepth 10000
set_option linter.unusedSimpArgs false
structure Deed where
  op : Int
  a : Int
  b : Int
deriving DecidableEq, Inhabited
def Deed.l (d : Deed) : List Int := [d.op, d.a, d.b]
def ofD (x : Ins) : Deed := if turnsO x.op = true ∧ x.b < x.a then ⟨x.op, x.b, x.a⟩ else ⟨x.op, x.a, x.b⟩
theorem c_of (x : Ins) : FC Try.prog 77 [.agg (encIns x)] (.tup [.agg [iv (ofD x).op, iv (ofD x).a, iv (ofD x).b], .bool (twoO x.op)]) := by
  refine FC_intro tok Try.func77 rfl (by decide +kernel) (Nat.le_of_ble_eq_true rfl) ?_
  (repeat' first | refine AWp_seq ?_ | (refine AWp_reg tok (by rfl) ?_; conv => whnf))
  refine .inl ⟨_, _, _, uG (QC.fc (c_Turns x.op) rfl), ?_⟩
  conv => whnf
  (repeat' first | refine AWp_seq ?_ | (refine AWp_reg tok (by rfl) ?_; conv => whnf) | (refine AWp_any tok mix (by rfl) ?_; conv => whnf) | (refine AWp_skip ?_; conv => whnf) | refine AWp_cond rfl (fun hb => ?_) (fun hb => ?_))
  · refine .inl ⟨_, _, _, uG (QC.fc (c_Two x.op) rfl), ?_⟩
    conv => whnf
    (repeat' (refine AWp_ret ?_; conv => whnf))
    have ho : ofD x = ⟨x.op, x.b, x.a⟩ := if_pos (by simp only [underG, true_and, and_true, Bool.cond_true_left, Bool.cond_false_left, Bool.cond_true_right, Bool.cond_false_right, Bool.or_eq_true, Bool.and_eq_true, Bool.or_eq_false_iff, Bool.and_eq_false_iff, cond_true, cond_false, Bool.not_eq_eq_eq_not, Bool.not_true, Bool.not_false, decide_eq_true_eq, decide_eq_false_iff_not, Int.toNat_natCast, Nat.zero_add, Decidable.not_not, maxL, inn_iff] at *; exact hb)
    rw [ho]
    exact ⟨_, rfl, Rel.tup (.cons (Rel.agg (.cons (Rel.imm rfl) (.cons (Rel.imm rfl) (.cons (Rel.imm rfl) .nil)))) (.cons (Rel.imm rfl) .nil))⟩
  · refine .inl ⟨_, _, _, uG (QC.fc (c_Two x.op) rfl), ?_⟩
    conv => whnf
    (repeat' (refine AWp_ret ?_; conv => whnf))
    have ho : ofD x = ⟨x.op, x.a, x.b⟩ := if_neg (by intro h; rw [h.1] at hb; simp at hb; omega)
    rw [ho]
    exact ⟨_, rfl, Rel.tup (.cons (Rel.agg (.cons (Rel.imm rfl) (.cons (Rel.imm rfl) (.cons (Rel.imm rfl) .nil)))) (.cons (Rel.imm rfl) .nil))⟩
abbrev κS : MK := ⟨true, 3, .i64, .i64⟩
abbrev mpS (m : List (List Int × Int)) : ABlock := .map (.assoc κS m)
def hit (p : Int) (q : List Int × Int) : Bool := decide (q.1.getD 1 0 = p) || decide (q.1.getD 2 0 = p) || decide (q.2 = p)
def forgetM (m : List (List Int × Int)) (p : Int) : List (List Int × Int) := m.filter fun q => !hit p q
theorem mdel_filter (k : List Int) : ∀ {m : List (List Int × Int)}, (m.map (·.1)).Nodup → mdel m k = m.filter fun q => !decide (q.1 = k)
  | [], _ => rfl
  | (k', v') :: r, h => by
      simp only [List.map_cons, List.nodup_cons] at h
      simp only [mdel]
      split
      · rename_i e; subst e
        rw [List.filter_cons_of_neg (by simp)]
        symm
        refine List.filter_eq_self.2 (fun q hq => ?_)
        simp only [Bool.not_eq_true', decide_eq_false_iff_not]
        intro e; exact h.1 (e ▸ List.mem_map.2 ⟨q, hq, rfl⟩)
      · rename_i e
        rw [List.filter_cons_of_pos (by simpa using e), mdel_filter k h.2]
theorem mem_key {m : List (List Int × Int)} (h : (m.map (·.1)).Nodup) {k : List Int} {v v' : Int} (h1 : (k, v) ∈ m) (h2 : (k, v') ∈ m) : v = v' := by
  induction m with
  | nil => cases h1
  | cons q r ih =>
    simp only [List.map_cons, List.nodup_cons] at h
    rcases List.mem_cons.1 h1 with e1 | e1 <;> rcases List.mem_cons.1 h2 with e2 | e2
    · subst e1; cases e2; rfl
    · subst e1; exact absurd (List.mem_map.2 ⟨_, e2, rfl⟩) h.1
    · subst e2; exact absurd (List.mem_map.2 ⟨_, e1, rfl⟩) h.1
    · exact ih h.2 e1 e2
theorem forget_del {m : List (List Int × Int)} (h : (m.map (·.1)).Nodup) {k : List Int} {v p : Int} (h1 : (k, v) ∈ m) (hh : hit p (k, v) = true) : forgetM (mdel m k) p = forgetM m p := by
  unfold forgetM
  rw [mdel_filter k h, List.filter_filter]
  refine List.filter_congr (fun q hq => ?_)
  by_cases e : q.1 = k
  · obtain ⟨qk, qv⟩ := q
    simp only at e; subst e
    have := mem_key h hq h1; subst this
    simp [hh]
  · simp [e]
structure FInv (m : List (List Int × Int)) (p : Int) (clock : Nat) (es : Array MapEntry) (seen : Array Nat) (m' : List (List Int × Int)) : Prop where
  ok : MOk κS m' es clock
  same : forgetM m' p = forgetM m p
  past : ∀ e ∈ es.toList, seen.contains e.born = true → ∀ k v, (k, v) ∈ m' → e.key = keyV κS k → hit p (k, v) = false
theorem FInv.done {m : List (List Int × Int)} {p : Int} {clock : Nat} {es : Array MapEntry} {seen : Array Nat} {m' : List (List Int × Int)} (h : FInv m p clock es seen m') (h0 : (leftOf es seen).size = 0) : MOk κS (forgetM m p) es clock := by
  rw [← h.same]
  have : forgetM m' p = m' := List.filter_eq_self.2 (fun q hq => by
    have h1 : (keyV κS q.1, Value.int .i64 q.2) ∈ m'.map (fun p => (keyV κS p.1, Value.int κS.vk p.2)) := List.mem_map.2 ⟨q, hq, rfl⟩
    rw [← h.ok.kv] at h1
    obtain ⟨e, he, h2⟩ := List.mem_map.1 h1
    have h3 := Prod.mk.inj h2
    rw [h.past e he (all_seen es seen h0 e he) q.1 q.2 hq h3.1]; rfl)
  rw [this]; exact h.ok
theorem FInv.miss {m : List (List Int × Int)} {p : Int} {clock : Nat} {es : Array MapEntry} {seen : Array Nat} {m' : List (List Int × Int)} (h : FInv m p clock es seen m') {e : MapEntry} (he : e ∈ es.toList) {k : List Int} {v : Int} (hm : (k, v) ∈ m') (hk : e.key = keyV κS k)
    (hh : hit p (k, v) = false) : FInv m p clock es (seen.push e.born) m' := by
  refine ⟨h.ok, h.same, fun x hx hs k' v' hm' hk' => ?_⟩
  rw [contains_push] at hs
  cases h1 : seen.contains x.born with
  | true => exact h.past x hx h1 k' v' hm' hk'
  | false =>
    rw [h1] at hs
    have hb : x.born = e.born := by simpa using hs
    have hxe := born_inj h.ok.born hx he hb
    subst hxe
    have := keyV_inj (κ := κS) (by simp) (h.ok.ok _ hm').1 (h.ok.ok _ hm).1 (hk'.symm.trans hk)
    subst this
    have := mem_key h.ok.nodup hm' hm
    subst this
    exact hh
theorem FInv.struck {m : List (List Int × Int)} {p : Int} {clock : Nat} {es es' : Array MapEntry} {seen : Array Nat} {m' : List (List Int × Int)} (h : FInv m p clock es seen m') {e : MapEntry} (he : e ∈ es.toList) {k : List Int} {v : Int} (hm : (k, v) ∈ m') (hk : e.key = keyV κS k)
    (hh : hit p (k, v) = true) (hM : MOk κS (mdel m' k) es' clock) (hs : es'.toList.Sublist es.toList) : FInv m p clock es' (seen.push e.born) (mdel m' k) := by
  refine ⟨hM, by rw [forget_del h.ok.nodup hm hh]; exact h.same, fun x hx hc k' v' hm' hk' => ?_⟩
  rw [mdel_filter k h.ok.nodup, List.mem_filter] at hm'
  have hx' := hs.subset hx
  rw [contains_push] at hc
  cases h1 : seen.contains x.born with
  | true => exact h.past x hx' h1 k' v' hm'.1 hk'
  | false =>
    rw [h1] at hc
    have hb : x.born = e.born := by simpa using hc
    have hxe := born_inj h.ok.born hx' he hb
    subst hxe
    have := keyV_inj (κ := κS) (by simp) (h.ok.ok _ hm'.1).1 (h.ok.ok _ hm).1 (hk'.symm.trans hk)
    subst this
    simp at hm'
theorem left_sub {es es' : Array MapEntry} {seen : Array Nat} (hs : es'.toList.Sublist es.toList) : (leftOf es' seen).size ≤ (leftOf es seen).size := by
  have e1 : ∀ a : Array MapEntry, (leftOf a seen).size = (a.toList.filter fun e => !seen.contains e.born).length := fun a => by
    unfold leftOf
    rw [← Array.toList_filter, Array.length_toList]
  rw [e1, e1]
  exact (hs.filter _).length_le
theorem key3 {k : List Int} (h : KeyOk κS k) : ∃ a b c, k = [a, b, c] := by
  have := h.1
  match k, this with
  | [a, b, c], _ => exact ⟨a, b, c, rfl⟩
theorem c_forget (m : List (List Int × Int)) (p : Int) : HC Try.prog [i0] 78 [(i0, mpS m)] [.mp i0, iv p] (.tup []) [(i0, mpS (forgetM m p))] := by
  refine HC_intro tok Try.func78 rfl (by decide +kernel) (Nat.le_of_ble_eq_true rfl) ?_
  refine AWp_open 0 i0 rfl rfl (fun es clock hM => ?_)
  (repeat' ((fail_if_success (show AWp _ _ _ (Code.region 0 _ _) _ _)); refine AWp_seq ?_))
  refine AWp_hand1 tok rfl (by rfl) rfl rfl ?_
  conv => whnf
  intro X ι a w s
  refine ⟨⟨_, _, []⟩, range_ok (t := 81) tok s rfl rfl rfl rfl rfl, rfl, ?_⟩
  clear s
  conv => whnf
  (repeat' refine AWp_block ?_)
  refine AWp_loop (fun q : Array MapEntry × Array Nat × List (List Int × Int) => mkS [(0, .mp i0), (1, iv p), (7, .bp (7, 0, 0) 0)] [(i0, .map (.exact q.1 clock)), ((7, 0, 0), .map (.itr i0 clock q.2.1 clock))])
    (fun q => FInv m p clock q.1 q.2.1 q.2.2) (fun q => (leftOf q.1 q.2.1).size) (es, #[], m) ⟨hM, rfl, fun e _ h => by simp at h⟩ ?_ ?_
  · refine Weak.list [(i0, .old i0, .map (.exact es clock)), ((7, 0, 0), .old (7, 0, 0), .map (.itr i0 clock #[] clock))] rfl (by rfl) ?_ (.old rfl (BLe.refl _) (.old rfl (BLe.refl _) .nil))
    ((repeat' first | exact TLes.nil | refine TLes.cons (TLe.eq rfl) ?_); skip)
  clear X ι a w hM es
  rintro ⟨es, seen, m'⟩ hI
  simp only at hI ⊢
  refine AWp_seq (AWp_next tok 81 (7, 0, 0) i0 es clock seen m' κS rfl (by rfl) rfl rfl rfl rfl rfl rfl rfl hI.ok (fun h0 => ⟨rfl, ?_⟩) (fun e he hem k v hm hk hv => ⟨rfl, ?_⟩))
  · conv => whnf
    (repeat' first | refine AWp_seq ?_ | (refine AWp_reg tok (by rfl) ?_; conv => whnf) | refine AWp_block ?_ | (refine AWp_skip ?_; conv => whnf) | (refine AWp_exit ?_; conv => whnf) | refine AWp_cond rfl (fun hb => ?_) (fun hb => ?_))
    · cases hb
    exact ⟨_, [(i0, .old i0, mpS (forgetM m p))], rfl, rfl, rfl, rfl, .old rfl (BLe.shut (hI.done h0)) .nil, .eq rfl⟩
  · obtain ⟨k0, k1, k2, rfl⟩ := key3 (hI.ok.ok _ hm).1
    conv => whnf
    (repeat' ((fail_if_success (show AWp _ _ _ (Code.region 2 _ _) _ _)); first | refine AWp_seq ?_ | refine AWp_block ?_ | (refine AWp_skip ?_; conv => whnf) | (refine AWp_exit ?_; conv => whnf) | refine AWp_cond rfl (fun hb => ?_) (fun hb => ?_)))
    · refine AWp_entry tok 81 (7, 0, 0) i0 es clock seen m' κS (ent := e) (k := [k0, k1, k2]) (v := v) rfl (by rfl) rfl rfl rfl rfl rfl rfl rfl hI.ok hem hm hk hv ⟨rfl, ?_⟩
      conv => whnf
      (repeat' ((fail_if_success (show AWp _ _ _ (Code.region 4 _ _) _ _)); first | refine AWp_seq ?_ | (refine AWp_reg tok (by rfl) ?_; conv => whnf) | (refine AWp_skip ?_; conv => whnf) | refine AWp_cond rfl (fun hb => ?_) (fun hb => ?_)))
      · refine AWp_hand2 tok rfl (by rfl) rfl rfl ?_
        conv => whnf
        intro X ι a w s
        refine del_ex tok s 81 i0 es clock m' κS [k0, k1, k2] rfl rfl rfl rfl rfl rfl rfl rfl hI.ok (fun es' hM' hsub => ⟨rfl, ?_⟩)
        clear s
        conv => whnf
        skip
        refine ⟨(es', seen.push e.born, mdel m' [k0, k1, k2]), hI.struck hem hm hk ?_ hM' hsub, Nat.lt_of_le_of_lt (left_sub hsub) (left_shrinks es seen e he), Weak.list [(i0, .old i0, .map (.exact es' clock)), ((7, 0, 0), .old (7, 0, 0), .map (.itr i0 clock (seen.push e.born) clock))] rfl (by rfl) ?_ (.old rfl (BLe.refl _) (.old rfl (BLe.refl _) .nil))⟩
        · simp [hit]; simp only [underG, true_and, and_true, Bool.cond_true_left, Bool.cond_false_left, Bool.cond_true_right, Bool.cond_false_right, Bool.or_eq_true, Bool.and_eq_true, Bool.or_eq_false_iff, Bool.and_eq_false_iff, cond_true, cond_false, Bool.not_eq_eq_eq_not, Bool.not_true, Bool.not_false, decide_eq_true_eq, decide_eq_false_iff_not, Int.toNat_natCast, Nat.zero_add, Decidable.not_not, maxL, inn_iff] at *; omega
        · ((repeat' first | exact TLes.nil | refine TLes.cons (TLe.eq rfl) ?_); skip)
      · refine ⟨(es, seen.push e.born, m'), hI.miss hem hm hk ?_, left_shrinks es seen e he, Weak.list [(i0, .old i0, .map (.exact es clock)), ((7, 0, 0), .old (7, 0, 0), .map (.itr i0 clock (seen.push e.born) clock))] rfl (by rfl) ?_ (.old rfl (BLe.refl _) (.old rfl (BLe.refl _) .nil))⟩
        · simp [hit]; simp only [underG, true_and, and_true, Bool.cond_true_left, Bool.cond_false_left, Bool.cond_true_right, Bool.cond_false_right, Bool.or_eq_true, Bool.and_eq_true, Bool.or_eq_false_iff, Bool.and_eq_false_iff, cond_true, cond_false, Bool.not_eq_eq_eq_not, Bool.not_true, Bool.not_false, decide_eq_true_eq, decide_eq_false_iff_not, Int.toNat_natCast, Nat.zero_add, Decidable.not_not, maxL, inn_iff] at *; omega
        · ((repeat' first | exact TLes.nil | refine TLes.cons (TLe.eq rfl) ?_); skip)
    · cases hb
abbrev Mp := List (List Int × Int)
def sameHit (m : Mp) (x : Ins) : Bool := bif twoO x.op then (mlook m (ofD x).l).isSome else false
def sameY (m : Mp) (x : Ins) : Ins := if sameHit m x = true then ⟨2, x.dst, (mlook m (ofD x).l).getD 0, 0, 0, 0, []⟩ else x
def sameOk (m : Mp) (x : Ins) : Bool := twoO x.op && !(mlook m (ofD x).l).isSome
def sameM (m : Mp) (x : Ins) : Mp := if (sameY m x).op = 10 ∨ (sameY m x).op = 12 then m else
  if sameOk m x = true ∧ (sameY m x).dst ≠ (ofD x).a ∧ (sameY m x).dst ≠ (ofD x).b then mput (forgetM m (sameY m x).dst) (ofD x).l (sameY m x).dst else forgetM m (sameY m x).dst
def sameIns : Mp → List Ins → List Ins × Mp
  | m, [] => ([], m)
  | m, x :: r => (sameY m x :: (sameIns (sameM m x) r).1, (sameIns (sameM m x) r).2)
theorem sameIns_snoc : ∀ (l : List Ins) (m : Mp) (x : Ins), sameIns m (l ++ [x]) = ((sameIns m l).1 ++ [sameY (sameIns m l).2 x], sameM (sameIns m l).2 x)
  | [], m, x => rfl
  | y :: r, m, x => by
      simp only [List.cons_append, sameIns]
      rw [sameIns_snoc r _ x]
theorem sameIns_len : ∀ (l : List Ins) (m : Mp), (sameIns m l).1.length = l.length
  | [], _ => rfl
  | _ :: r, m => by simp [sameIns, sameIns_len r]
def sameBlock (b : Block) : Block := { b with ins := (sameIns [] b.ins).1 }
def smapAt (l : List Ins) (i : Nat) : Mp := (sameIns [] (l.take i)).2
def sameAt (l : List Ins) (i : Nat) : List Ins := (sameIns [] (l.take i)).1 ++ l.drop i
theorem sameAt_len (l : List Ins) (i : Nat) : (sameAt l i).length = l.length := by
  simp only [sameAt, List.length_append, sameIns_len, List.length_take, List.length_drop]; omega
theorem sameAt_get {l : List Ins} {i : Nat} (h : i < l.length) : (sameAt l i).getD i default = l.getD i default := by
  unfold sameAt
  rw [getD_append, sameIns_len, List.length_take, if_neg (by omega)]
  have : i - min i l.length = 0 := by omega
  rw [this, drop_getD default h]; rfl
theorem smapAt_succ {l : List Ins} {i : Nat} (h : i < l.length) : smapAt l (i + 1) = sameM (smapAt l i) (l.getD i default) := by
  unfold smapAt; rw [take_succ_getD default h, sameIns_snoc]
theorem sameAt_succ {l : List Ins} {i : Nat} (h : i < l.length) : sameAt l (i + 1) = (sameAt l i).set i (sameY (smapAt l i) (l.getD i default)) := by
  unfold sameAt smapAt
  rw [take_succ_getD default h, sameIns_snoc]
  have hl : (sameIns [] (l.take i)).1.length = i := by rw [sameIns_len, List.length_take]; omega
  rw [List.set_append_right _ _ (by omega), hl, Nat.sub_self, drop_getD default h]
  simp
theorem sameAt_at {l : List Ins} {i : Nat} (h : i < l.length) : (sameAt l (i + 1)).getD i default = sameY (smapAt l i) (l.getD i default) := by
  rw [sameAt_succ h, getD_set, if_pos ⟨rfl, by rw [sameAt_len]; exact h⟩]
abbrev dRow (x : Ins) : ABlock := .row true 3 1 (fun _ => [iv (ofD x).op, iv (ofD x).a, iv (ofD x).b])
theorem c_sBlock (b : Block) : FC Try.prog 29 [.agg (encBlock b)] (.agg (encBlock (sameBlock b))) := by
  refine FC_intro tok Try.func29 rfl (by decide +kernel) (Nat.le_of_ble_eq_true rfl) ?_
  refine AWp_facts 0 (fun hl => ?_)
  have hl0 : b.ins.length ≤ maxL := hl.2.2.2.2.2.1.1
  (repeat' first | refine AWp_seq ?_ | (refine AWp_reg tok (by rfl) ?_; conv => whnf))
  refine .inl ⟨_, _, _, uG (QC.fo (rd := []) (c_CloneIns b.ins) (.cons (.imm rfl) .nil) (.inl rfl) rfl), ?_⟩
  conv => whnf
  (repeat' first | refine AWp_seq ?_ | (refine AWp_reg tok (by rfl) ?_; conv => whnf) | refine AWp_block ?_)
  generalize hl : b.ins = l at hl0
  refine AWp_loop (fun i : Nat => mkS [(1, .bp (1, 0, 0) 0), (2, .bp (2, 0, 0) 0), (3, .mp (10, 0, 0)), (17, iv l.length), (18, iv i)]
      [((1, 0, 0), .row false 14 1 (fun _ => blkCells b (.rs (13, 0, 0) 7 0 l.length) b.fin)), ((2, 0, 0), .row true 14 1 (fun _ => encBlock default)), ((10, 0, 0), mpS (smapAt l i)), ((13, 0, 0), insRow (sameAt l i) l.length)])
    (fun i => i ≤ l.length) (fun i => l.length - i) 0 (Nat.zero_le _) ?_ ?_
  · refine Weak.list [((1, 0, 0), .old (1, 0, 0), .row false 14 1 (fun _ => blkCells b (.rs (13, 0, 0) 7 0 l.length) b.fin)), ((2, 0, 0), .old (2, 0, 0), .row true 14 1 (fun _ => encBlock default)), ((10, 0, 0), .old (10, 0, 0), mpS (smapAt l 0)), ((13, 0, 0), .old (13, 0, 0), insRow (sameAt l 0) l.length)] rfl (by rfl) ?_ ?_
    · ((repeat' first | exact TLes.nil | refine TLes.cons (TLe.eq rfl) ?_); skip)
    · refine .old rfl (BLe.rowW (Nat.le_refl _) (fun x hx => ?_)) (.old rfl (BLe.rowW (Nat.le_refl _) (fun x hx => ?_)) (.old rfl (BLe.refl _) (.old rfl (BLe.row rfl (fun x hx => ?_)) .nil)))
      · match x, hx with
        | 0, _ => (repeat' ((conv => arg 1; whnf); (conv => arg 2; whnf); first | refine Wks.cons .refl ?_ | exact Wks.nil))
      · match x, hx with
        | 0, _ => (repeat' ((conv => arg 1; whnf); (conv => arg 2; whnf); first | refine Wks.cons .refl ?_ | refine Wks.cons (.nsl rfl) ?_ | exact Wks.nil))
      · rw [show sameAt l 0 = l by simp [sameAt, sameIns]]; rfl
  intro i hi
  have hfl := sameAt_len l i
  ((repeat' first | refine AWp_seq ?_ | (refine AWp_reg tok (by rfl) ?_; conv => whnf) | refine AWp_block ?_ | (refine AWp_skip ?_; conv => whnf) | (refine AWp_exit ?_; conv => whnf) | (refine AWp_ret ?_; conv => whnf) | refine AWp_cond rfl (fun hb => ?_) (fun hb => ?_) | (refine @And.intro (underG _ _ _ _) _ ?_ ?_; rotate_left; (conv => whnf); rotate_right)); all_goals (try ((guard_target = underG _ _ _ _); refine underG_none ?_; (all_goals (try simp only [underG, true_and, and_true, Bool.cond_true_left, Bool.cond_false_left, Bool.cond_true_right, Bool.cond_false_right, Bool.or_eq_true, Bool.and_eq_true, Bool.or_eq_false_iff, Bool.and_eq_false_iff, cond_true, cond_false, Bool.not_eq_eq_eq_not, Bool.not_true, Bool.not_false, decide_eq_true_eq, decide_eq_false_iff_not, Int.toNat_natCast, Nat.zero_add, Decidable.not_not, maxL, inn_iff] at *)); all_goals omega)))
  · have hlt : i < l.length := by simp only [underG, true_and, and_true, Bool.cond_true_left, Bool.cond_false_left, Bool.cond_true_right, Bool.cond_false_right, Bool.or_eq_true, Bool.and_eq_true, Bool.or_eq_false_iff, Bool.and_eq_false_iff, cond_true, cond_false, Bool.not_eq_eq_eq_not, Bool.not_true, Bool.not_false, decide_eq_true_eq, decide_eq_false_iff_not, Int.toNat_natCast, Nat.zero_add, Decidable.not_not, maxL, inn_iff] at *; omega
    have hget := sameAt_get hlt
    have hget' : (sameAt l i).getD (0 + (i : Int).toNat) default = l.getD i default := by simpa using hget
    generalize hx : l.getD i default = x at hget hget'
    generalize hm : smapAt l i = m
    have hcall : ∀ y, y = x → FC Try.prog 77 [.agg (encIns y)] (.tup [.agg [iv (ofD x).op, iv (ofD x).a, iv (ofD x).b], .bool (twoO x.op)]) := fun y e => e ▸ c_of y
    refine .inl ⟨_, _, _, uG (QC.fc (hcall ((sameAt l i).getD (0 + (i : Int).toNat) default) hget') rfl), ?_⟩
    conv => whnf
    (repeat' first | refine AWp_seq ?_ | (refine AWp_reg tok (by rfl) ?_; conv => whnf))
    refine AWp_meet (fun _ : Unit => mkS [(1, .bp (1, 0, 0) 0), (2, .bp (2, 0, 0) 0), (3, .mp (10, 0, 0)), (5, .rp (13, 0, 0) 7 (0 + (i : Int).toNat) 0), (6, .bp (6, 0, 0) 0), (7, .bool (sameOk m x)), (17, iv l.length), (18, iv i)]
      [((1, 0, 0), .row false 14 1 (fun _ => blkCells b (.rs (13, 0, 0) 7 0 l.length) b.fin)), ((2, 0, 0), .row true 14 1 (fun _ => encBlock default)), ((6, 0, 0), dRow x), ((10, 0, 0), mpS m), ((13, 0, 0), insRow (sameAt l (i + 1)) l.length)]) (fun _ => True) ?_ ?_
    · ((repeat' first | refine AWp_seq ?_ | (refine AWp_reg tok (by rfl) ?_; conv => whnf) | (refine AWp_skip ?_; conv => whnf) | refine AWp_cond rfl (fun hb => ?_) (fun hb => ?_) | (refine @And.intro (underG _ _ _ _) _ ?_ ?_; rotate_left; (conv => whnf); rotate_right)); all_goals (try ((guard_target = underG _ _ _ _); refine underG_none ?_; (all_goals (try simp only [underG, true_and, and_true, Bool.cond_true_left, Bool.cond_false_left, Bool.cond_true_right, Bool.cond_false_right, Bool.or_eq_true, Bool.and_eq_true, Bool.or_eq_false_iff, Bool.and_eq_false_iff, cond_true, cond_false, Bool.not_eq_eq_eq_not, Bool.not_true, Bool.not_false, decide_eq_true_eq, decide_eq_false_iff_not, Int.toNat_natCast, Nat.zero_add, Decidable.not_not, maxL, inn_iff] at *)); all_goals omega)))
      all_goals
        have hh : sameHit m x = _ := hb
        refine ⟨(), trivial, Weak.list [((1, 0, 0), .old (1, 0, 0), .row false 14 1 (fun _ => blkCells b (.rs (13, 0, 0) 7 0 l.length) b.fin)), ((2, 0, 0), .old (2, 0, 0), .row true 14 1 (fun _ => encBlock default)), ((6, 0, 0), .old (6, 0, 0), dRow x), ((10, 0, 0), .old (10, 0, 0), mpS m), ((13, 0, 0), .old (13, 0, 0), insRow (sameAt l (i + 1)) l.length)] rfl (by rfl) ?_ ?_⟩
      · ((repeat' first | exact TLes.nil | refine TLes.cons (TLe.eq rfl) ?_ | refine TLes.cons (TLe.bool ?_) ?_); skip)
        unfold sameHit at hh; unfold sameOk
        cases h1 : twoO x.op <;> cases h2 : (mlook m (ofD x).l).isSome <;> simp [h1, h2] at hh ⊢
      · refine .old rfl (BLe.refl _) (.old rfl (BLe.refl _) (.old rfl (BLe.row rfl (fun z hz => ?_)) (.old rfl (BLe.refl _) (.old rfl (BLe.rowW (Nat.le_refl _) (fun z hz => ?_)) .nil))))
        · match z, hz with
          | 0, _ => rfl
        · rw [sameAt_succ hlt, hx, hm, show sameY m x = _ from if_pos hh]
          refine upd_rowW encIns default (sameAt l i) (by omega) (by simp) ?_ z
          rw [hget']
          (repeat' ((conv => arg 1; whnf); (conv => arg 2; whnf); first | refine Wks.cons .refl ?_ | refine Wks.cons (.nsl rfl) ?_ | exact Wks.nil))
      · ((repeat' first | exact TLes.nil | refine TLes.cons (TLe.eq rfl) ?_ | refine TLes.cons (TLe.bool ?_) ?_); skip)
        unfold sameHit at hh; unfold sameOk
        cases h1 : twoO x.op <;> cases h2 : (mlook m (ofD x).l).isSome <;> simp [h1, h2] at hh ⊢
      · refine .old rfl (BLe.refl _) (.old rfl (BLe.refl _) (.old rfl (BLe.row rfl (fun z hz => ?_)) (.old rfl (BLe.refl _) (.old rfl (BLe.rowW (Nat.le_refl _) (fun z hz => ?_)) .nil))))
        · match z, hz with
          | 0, _ => rfl
        · rw [sameAt_succ hlt, hx, hm, show sameY m x = x from if_neg (by rw [hh]; simp)]
          refine Wks.of ?_
          show encIns ((sameAt l i).getD z default) = _
          rw [← hget, getD_set]
          split
          · rename_i h; rw [h.1]
          · rfl
    rintro _ _ τ hτ
    refine AWp_weak hτ ?_
    have hat := sameAt_at hlt
    rw [hm, hx] at hat
    have hat' : (sameAt l (i + 1)).getD (0 + (i : Int).toNat) default = sameY m x := by simpa using hat
    have hsucc := smapAt_succ hlt
    rw [hm, hx] at hsucc
    generalize hY : sameY m x = y at hat hat'
    have hforget : ∀ z, z = y → HC Try.prog [i0] 78 [(i0, mpS m)] [.mp i0, iv z.dst] (.tup []) [(i0, mpS (forgetM m y.dst))] := fun z e => e ▸ c_forget m z.dst
    conv => whnf
    ((repeat' first | refine AWp_seq ?_ | (refine AWp_reg tok (by rfl) ?_; conv => whnf) | (refine AWp_skip ?_; conv => whnf) | (refine AWp_exit ?_; conv => whnf) | refine AWp_cond rfl (fun hb => ?_) (fun hb => ?_) | (refine @And.intro (underG _ _ _ _) _ ?_ ?_; rotate_left; (conv => whnf); rotate_right)); all_goals (try ((guard_target = underG _ _ _ _); (first | refine underG_none ?_ | (refine underG_some ?_; intro hgd; (conv at hgd => whnf))); (all_goals (try simp only [underG, true_and, and_true, Bool.cond_true_left, Bool.cond_false_left, Bool.cond_true_right, Bool.cond_false_right, Bool.or_eq_true, Bool.and_eq_true, Bool.or_eq_false_iff, Bool.and_eq_false_iff, cond_true, cond_false, Bool.not_eq_eq_eq_not, Bool.not_true, Bool.not_false, decide_eq_true_eq, decide_eq_false_iff_not, Int.toNat_natCast, Nat.zero_add, Decidable.not_not, maxL, inn_iff] at *)); all_goals omega)))
    · rw [hat'] at hb
      have he : smapAt l (i + 1) = m := by
        rw [hsucc]; unfold sameM; rw [hY, if_pos]
        simp only [underG, true_and, and_true, Bool.cond_true_left, Bool.cond_false_left, Bool.cond_true_right, Bool.cond_false_right, Bool.or_eq_true, Bool.and_eq_true, Bool.or_eq_false_iff, Bool.and_eq_false_iff, cond_true, cond_false, Bool.not_eq_eq_eq_not, Bool.not_true, Bool.not_false, decide_eq_true_eq, decide_eq_false_iff_not, Int.toNat_natCast, Nat.zero_add, Decidable.not_not, maxL, inn_iff] at *; omega
      rw [← he]
      refine ⟨i + 1, hlt, by omega, Weak.list [((1, 0, 0), .old (1, 0, 0), .row false 14 1 (fun _ => blkCells b (.rs (13, 0, 0) 7 0 l.length) b.fin)), ((2, 0, 0), .old (2, 0, 0), .row true 14 1 (fun _ => encBlock default)), ((10, 0, 0), .old (10, 0, 0), mpS (smapAt l (i + 1))), ((13, 0, 0), .old (13, 0, 0), insRow (sameAt l (i + 1)) l.length)] rfl (by rfl) ?_ ?_⟩
      · ((repeat' first | exact TLes.nil | refine TLes.cons (TLe.eq rfl) ?_ | refine TLes.cons (TLe.int ?_) ?_); (all_goals first | ((try (simp only [underG, true_and, and_true, Bool.cond_true_left, Bool.cond_false_left, Bool.cond_true_right, Bool.cond_false_right, Bool.or_eq_true, Bool.and_eq_true, Bool.or_eq_false_iff, Bool.and_eq_false_iff, cond_true, cond_false, Bool.not_eq_eq_eq_not, Bool.not_true, Bool.not_false, decide_eq_true_eq, decide_eq_false_iff_not, Int.toNat_natCast, Nat.zero_add, Decidable.not_not, maxL, inn_iff] at *)); exact wrap64 (by omega) (by omega)) | skip))
      · exact .old rfl (BLe.refl _) (.old rfl (BLe.refl _) (.old rfl (BLe.refl _) (.old rfl (BLe.refl _) .nil)))
    rw [hat'] at hb
    have hno : ¬ (y.op = 10 ∨ y.op = 12) := by intro h; rcases h with h | h <;> simp [h] at hb
    refine .inr ⟨_, _, _, uG (QH.of (dead := []) [(i0, .old (10, 0, 0), mpS m)] (hforget _ hat') rfl (.old rfl (BLe.refl _) .nil) (.cons (.eq rfl) (.cons (.eq rfl) .nil)) [(i0, (10, 0, 0))] rfl (.cons rfl (BLe.refl _) .nil) rfl), ?_⟩
    conv => whnf
    ((repeat' first | refine AWp_seq ?_ | (refine AWp_reg tok (by rfl) ?_; conv => whnf) | (refine AWp_any tok mix (by rfl) ?_; conv => whnf) | (refine AWp_skip ?_; conv => whnf) | refine AWp_cond rfl (fun hb => ?_) (fun hb => ?_) | (refine @And.intro (underG _ _ _ _) _ ?_ ?_; rotate_left; (conv => whnf); rotate_right)); all_goals (try ((guard_target = underG _ _ _ _); (first | refine underG_none ?_ | (refine underG_some ?_; intro hgd; (conv at hgd => whnf))); (all_goals (try simp only [underG, true_and, and_true, Bool.cond_true_left, Bool.cond_false_left, Bool.cond_true_right, Bool.cond_false_right, Bool.or_eq_true, Bool.and_eq_true, Bool.or_eq_false_iff, Bool.and_eq_false_iff, cond_true, cond_false, Bool.not_eq_eq_eq_not, Bool.not_true, Bool.not_false, decide_eq_true_eq, decide_eq_false_iff_not, Int.toNat_natCast, Nat.zero_add, Decidable.not_not, maxL, inn_iff] at *)); all_goals omega)))
    · rw [hat'] at hb
      have he : smapAt l (i + 1) = mput (forgetM m y.dst) (ofD x).l y.dst := by
        rw [hsucc]; unfold sameM; rw [hY, if_neg hno, if_pos]
        cases h : sameOk m x <;> simp [h] at hb ⊢
        exact hb
      refine ⟨i + 1, hlt, by omega, Weak.list [((1, 0, 0), .old (1, 0, 0), .row false 14 1 (fun _ => blkCells b (.rs (13, 0, 0) 7 0 l.length) b.fin)), ((2, 0, 0), .old (2, 0, 0), .row true 14 1 (fun _ => encBlock default)), ((10, 0, 0), .old (10, 0, 0), mpS (smapAt l (i + 1))), ((13, 0, 0), .old (13, 0, 0), insRow (sameAt l (i + 1)) l.length)] rfl (by rfl) ?_ ?_⟩
      · ((repeat' first | exact TLes.nil | refine TLes.cons (TLe.eq rfl) ?_ | refine TLes.cons (TLe.int ?_) ?_); (all_goals first | ((try (simp only [underG, true_and, and_true, Bool.cond_true_left, Bool.cond_false_left, Bool.cond_true_right, Bool.cond_false_right, Bool.or_eq_true, Bool.and_eq_true, Bool.or_eq_false_iff, Bool.and_eq_false_iff, cond_true, cond_false, Bool.not_eq_eq_eq_not, Bool.not_true, Bool.not_false, decide_eq_true_eq, decide_eq_false_iff_not, Int.toNat_natCast, Nat.zero_add, Decidable.not_not, maxL, inn_iff] at *)); exact wrap64 (by omega) (by omega)) | skip))
      · rw [he, ← hat']
        exact .old rfl (BLe.refl _) (.old rfl (BLe.refl _) (.old rfl (BLe.refl _) (.old rfl (BLe.refl _) .nil)))
    · rw [hat'] at hb
      have he : smapAt l (i + 1) = forgetM m y.dst := by
        rw [hsucc]; unfold sameM; rw [hY, if_neg hno, if_neg]
        cases h : sameOk m x <;> simp [h] at hb ⊢
        exact hb
      refine ⟨i + 1, hlt, by omega, Weak.list [((1, 0, 0), .old (1, 0, 0), .row false 14 1 (fun _ => blkCells b (.rs (13, 0, 0) 7 0 l.length) b.fin)), ((2, 0, 0), .old (2, 0, 0), .row true 14 1 (fun _ => encBlock default)), ((10, 0, 0), .old (10, 0, 0), mpS (smapAt l (i + 1))), ((13, 0, 0), .old (13, 0, 0), insRow (sameAt l (i + 1)) l.length)] rfl (by rfl) ?_ ?_⟩
      · ((repeat' first | exact TLes.nil | refine TLes.cons (TLe.eq rfl) ?_ | refine TLes.cons (TLe.int ?_) ?_); (all_goals first | ((try (simp only [underG, true_and, and_true, Bool.cond_true_left, Bool.cond_false_left, Bool.cond_true_right, Bool.cond_false_right, Bool.or_eq_true, Bool.and_eq_true, Bool.or_eq_false_iff, Bool.and_eq_false_iff, cond_true, cond_false, Bool.not_eq_eq_eq_not, Bool.not_true, Bool.not_false, decide_eq_true_eq, decide_eq_false_iff_not, Int.toNat_natCast, Nat.zero_add, Decidable.not_not, maxL, inn_iff] at *)); exact wrap64 (by omega) (by omega)) | skip))
      · rw [he]
        exact .old rfl (BLe.refl _) (.old rfl (BLe.refl _) (.old rfl (BLe.refl _) (.old rfl (BLe.refl _) .nil)))
  · have hil : i = l.length := by simp only [underG, true_and, and_true, Bool.cond_true_left, Bool.cond_false_left, Bool.cond_true_right, Bool.cond_false_right, Bool.or_eq_true, Bool.and_eq_true, Bool.or_eq_false_iff, Bool.and_eq_false_iff, cond_true, cond_false, Bool.not_eq_eq_eq_not, Bool.not_true, Bool.not_false, decide_eq_true_eq, decide_eq_false_iff_not, Int.toNat_natCast, Nat.zero_add, Decidable.not_not, maxL, inn_iff] at *; omega
    subst hil
    subst hl
    have hf : sameAt b.ins b.ins.length = (sameIns [] b.ins).1 := by simp [sameAt]
    refine ⟨_, rfl, Rel.agg (.cons (Rel.imm rfl) (.cons (Rel.imm rfl) (.cons (Rel.imm rfl) (.cons (Rel.imm rfl) (.cons (Rel.imm rfl) (.cons (Rel.row rfl rfl (by simp [sameBlock, sameIns_len]) (fun x _ => ?_)) (.cons (Rel.imm rfl) (.cons (Rel.imm rfl) (.cons (Rel.imm rfl) (.cons (Rel.imm rfl) (.cons (Rel.imm rfl) (.cons (Rel.imm rfl) (.cons (Rel.imm rfl) (.cons (Rel.imm rfl) .nil))))))))))))))⟩
    show encIns ((sameAt b.ins b.ins.length).getD x default) = encIns ((sameIns [] b.ins).1.getD x default)
    rw [hf]
end Go.Proofs.Ytmanpbgaihdalaa
namespace Go.Proofs.Ytmanpbgaihdalaa
open Go Dv
set_option maxRecDepth 10000
set_option linter.unusedSimpArgs false
section
variable (B : Block → Block)
/-- The first k blocks gone through. -/
def mapB (l : List Block) (k : Nat) : List Block := (List.range l.length).map fun q => if q < k then B (l.getD q default) else l.getD q default
def mapF (f : Func) (k : Nat) : Func := { f with blocks := mapB B f.blocks k }
def curL (l : List Func) (n : Nat) : List Func := (List.range l.length).map fun j => if j < n then mapF B (l.getD j default) (l.getD j default).blocks.length else l.getD j default
def passM (m : Module) : Module := ⟨m.funcs.map fun f => { f with blocks := f.blocks.map B }⟩
end
theorem range_getD {α : Type} (d : α) (f : Nat → α) {n i : Nat} (h : i < n) : ((List.range n).map f).getD i d = f i := by
  simp [List.getD_eq_getElem?_getD, h]
theorem mapB_len {B : Block → Block} (l : List Block) (k : Nat) : (mapB B l k).length = l.length := by simp [mapB]
theorem mapB_at {B : Block → Block} {l : List Block} {k q : Nat} (h : q < l.length) : (mapB B l k).getD q default = if q < k then B (l.getD q default) else l.getD q default := range_getD _ _ h
theorem curL_len {B : Block → Block} (l : List Func) (k : Nat) : (curL B l k).length = l.length := by simp [curL]
theorem curL_at {B : Block → Block} {l : List Func} {k q : Nat} (h : q < l.length) : (curL B l k).getD q default = if q < k then mapF B (l.getD q default) (l.getD q default).blocks.length else l.getD q default := range_getD _ _ h
theorem mapB_all {B : Block → Block} (l : List Block) : mapB B l l.length = l.map B := by
  refine list_ext_getD default (by simp [mapB]) (fun i hi => ?_)
  rw [mapB_len] at hi
  rw [mapB_at hi, if_pos hi, getD_lt (d := default) (l := l.map B) (by simpa using hi), getD_lt _ hi]; simp
theorem curL_all {B : Block → Block} (l : List Func) : curL B l l.length = (passM B ⟨l⟩).funcs := by
  refine list_ext_getD default (by simp [curL, passM]) (fun i hi => ?_)
  rw [curL_len] at hi
  rw [curL_at hi, if_pos hi]
  simp only [passM]
  rw [getD_lt (d := default) (l := l.map _) (by simpa using hi), List.getElem_map, mapF, mapB_all, getD_lt _ hi]
theorem curL_zero {B : Block → Block} (l : List Func) : curL B l 0 = l := by
  refine list_ext_getD default (by simp [curL]) (fun i hi => ?_)
  rw [curL_len] at hi
  rw [curL_at hi, if_neg (Nat.not_lt_zero i)]
theorem curL_blen {B : Block → Block} {l : List Func} {k q : Nat} (h : q < l.length) : ((curL B l k).getD q default).blocks.length = (l.getD q default).blocks.length := by
  rw [curL_at h]; split
  · simp [mapF, mapB_len]
  · rfl
theorem curL_sig {B : Block → Block} {l : List Func} {k q : Nat} (h : q < l.length) : ((curL B l k).getD q default).params = (l.getD q default).params ∧ ((curL B l k).getD q default).regs = (l.getD q default).regs := by
  rw [curL_at h]; split <;> exact ⟨rfl, rfl⟩
def rdM (l : List Func) : List Dv.Id := (900, 0, 0) :: (List.range l.length).map fun j => (1000, j, 0)
theorem rdM_head (l : List Func) : (900, 0, 0) ∈ rdM l := by simp [rdM]
theorem rdM_at {l : List Func} {j : Nat} (h : j < l.length) : (1000, j, 0) ∈ rdM l := by simp [rdM, h]
theorem modH1_dom {l : List Func} {i : Dv.Id} (h : (modH1 l i).isSome = true) : i = (900, 0, 0) ∨ ∃ j, i = (1000, j, 0) := by
  cases e : modH1 l i with
  | none => rw [e] at h; cases h
  | some b =>
    rcases copyH_sub l i b e with ⟨h1, _⟩ | ⟨j, h1, _⟩
    · exact .inl h1
    · exact .inr ⟨j, h1⟩
/-- A module in memory, given away at the end. -/
theorem rel_mod {h : AHeap} {l l' : List Func} (hl : l'.length = l.length) (hs : ∀ j, j < l.length → (l'.getD j default).params = (l.getD j default).params ∧ (l'.getD j default).regs = (l.getD j default).regs ∧ (l'.getD j default).blocks.length = (l.getD j default).blocks.length)
    (h900 : h (900, 0, 0) = some (funR1 l (mem1 l))) (h1000 : ∀ j, j < l.length → h (1000, j, 0) = some (blkR1 (l'.getD j default).blocks)) : Rel h (.agg [.rs (900, 0, 0) 3 0 l.length]) (.agg (encMod ⟨l'⟩)) := by
  refine Rel.agg (Rels.cons ?_ Rels.nil)
  show Rel h _ (.sl 3 l'.length _)
  rw [hl]
  refine Rel.rs (imm := false) (k := l.length) (f := fun j => [iv (l.getD j default).params, iv (l.getD j default).regs, mem1 l j]) h900 (Nat.le_of_eq (Nat.zero_add _)) (fun i hi => ?_)
  obtain ⟨h1, h2, h3⟩ := hs i hi
  rw [Nat.zero_add]
  refine Rels.cons (Rel.int h1.symm) (Rels.cons (Rel.int h2.symm) (Rels.cons ?_ Rels.nil))
  show Rel h (.rs (1000, i, 0) 14 0 (l.getD i default).blocks.length) (.sl 14 (l'.getD i default).blocks.length _)
  rw [← h3]
  refine Rel.rs (imm := true) (k := (l'.getD i default).blocks.length) (f := fun q => encBlock ((l'.getD i default).blocks.getD q default)) (h1000 i hi) (Nat.le_of_eq (Nat.zero_add _)) (fun q hq => ?_)
  rw [Nat.zero_add]
  exact Rels.imm rfl
theorem ress_mod {h : AHeap} {l : List Func} (h900 : h (900, 0, 0) = some (funR1 l (mem1 l))) (h1000 : ∀ j, j < l.length → h (1000, j, 0) = some (blkR1 (l.getD j default).blocks)) : Ress h (rdM l) [.agg [.rs (900, 0, 0) 3 0 l.length]] [.agg (encMod ⟨l⟩)] :=
  .cons (.agg (.cons (.rsN (imm := false) (f := fun j => [iv (l.getD j default).params, iv (l.getD j default).regs, mem1 l j]) h900 (rdM_head l) (Nat.le_of_eq (Nat.zero_add _)) rfl (fun i hi => by
    rw [Nat.zero_add]
    exact .cons (.imm rfl) (.cons (.imm rfl) (.cons (.rsN (imm := true) (f := fun q => encBlock ((l.getD i default).blocks.getD q default)) (h1000 i hi) (rdM_at hi) (Nat.le_of_eq (Nat.zero_add _)) rfl (fun q hq => by rw [Nat.zero_add]; exact Ress.imms rfl)) .nil)))) .nil)) .nil
theorem GB_fun1 {src : Dv.Id → Option Dv.Id} {h h' : AHeap} {l : List Func} {c c' : Nat → AV} (hc : ∀ q, q < l.length → GV src h h' (c q) (c' q)) : GB src h h' (funR1 l c) (funR1 l c') :=
  GB.row (Nat.le_refl _) (fun q hq => .cons (.imm rfl) (.cons (.imm rfl) (.cons (hc q hq) .nil))) (fun e => by cases e)
theorem nbeq {q i : Nat} (h : q ≠ i) : (!(Nat.beq q i)) = true := by
  cases e : Nat.beq q i with
  | false => rfl
  | true => exact absurd (Nat.eq_of_beq_eq_true e) h
def errM (m : Module) : Int := if rightB m = true then 0 else 1
def doneM (B : Block → Block) (m : Module) : Module := if rightB m = true then passM B m else m
theorem keep1 {src : Dv.Id → Option Dv.Id} {h h' : AHeap} {fs : List Func} {i q m : Nat} {b b2 : ABlock} (h1 : q ≠ i → h' (1000, q, 0) = some b) (hs : src (1000, q, 0) = some (1000, q, 0)) (h2 : h' (901, 0, 0) = some b2) (hs2 : src (901, 0, 0) = some (901, 0, 0)) :
    GV src h h' (sel (Nat.beq q i) (.rs (901, 0, 0) 14 0 m) (mem1 fs q)) (sel (Nat.beq q i) (.rs (901, 0, 0) 14 0 m) (mem1 fs q)) := by
  by_cases e : q = i
  · subst e
    exact .cc sel_eq sel_eq (.rs h2 hs2 rfl rfl)
  · exact .cc (sel_ne e) (sel_ne e) (.rs (h1 e) hs rfl rfl)

set_option maxHeartbeats 2000000 in
theorem c_sModule (m : Module) : FC Try.prog 27 [.agg (encMod m)] (.tup [.agg (encMod (doneM sameBlock m)), iv (errM m)]) := by
  obtain ⟨fs⟩ := m
  refine FC_intro tok Try.func27 rfl (by decide +kernel) (Nat.le_of_ble_eq_true rfl) ?_
  refine AWp_facts 0 (fun hl => ?_)
  have hl0 : fs.length ≤ maxL := hl.1.1
  have hmx : maxL = 4294967296 := rfl
  have hl1 : ∀ i, i < fs.length → (fs.getD i default).blocks.length ≤ maxL := fun i hi => (hl.1.2 i hi).2.2.1.1
  clear hl
  (repeat' first | refine AWp_seq ?_ | (refine AWp_reg tok (by rfl) ?_; conv => whnf))
  refine .inr ⟨_, _, _, uG (QH.ofF (c_Copy1 fs) rfl (fun i hi => by rcases modH1_dom hi with rfl | ⟨j, rfl⟩ <;> rfl)), ?_⟩
  conv => whnf
  (repeat' first | refine AWp_seq ?_ | (refine AWp_reg tok (by rfl) ?_; conv => whnf))
  refine .inl ⟨_, _, _, uG (QC.sc (rd := rdM fs) (c_lRight c_lpad ⟨fs⟩) (ress_mod rfl (fun j hj => ?_)) rfl), ?_⟩
  · show bigH [] (modH1 fs) _ (1000, j, 0) = _
    unfold bigH; rw [modH1_at hj]
  conv => whnf
  (repeat' first | refine AWp_seq ?_ | (refine AWp_reg tok (by rfl) ?_; conv => whnf) | refine AWp_block ?_ | (refine AWp_skip ?_; conv => whnf) | (refine AWp_ret ?_; conv => whnf) | refine AWp_cond rfl (fun hb => ?_) (fun hb => ?_))
  · have hr : rightB ⟨fs⟩ = false := by simpa using hb
    refine ⟨_, rfl, Rel.tup (.cons ?_ (.cons (Rel.int (by simp [errM, hr])) .nil))⟩
    rw [show doneM sameBlock ⟨fs⟩ = ⟨fs⟩ from by simp [doneM, hr]]
    refine rel_mod rfl (fun j hj => ⟨rfl, rfl, rfl⟩) rfl (fun j hj => ?_)
    show bigH [] (modH1 fs) _ (1000, j, 0) = _
    unfold bigH; rw [modH1_at hj]
  have hr : rightB ⟨fs⟩ = true := by simpa using hb
  clear hb
  refine AWp_loop (fun i : Nat => mkF [(1, .bp (1, 0, 0) 0), (2, .bp (2, 0, 0) 0), (3, iv 0), (14, .rs (900, 0, 0) 3 0 fs.length), (15, iv fs.length), (16, iv i)] [((1, 0, 0), .row false 1 1 (fun _ => [.rs (900, 0, 0) 3 0 fs.length])), ((2, 0, 0), boxed [.nsl]), ((900, 0, 0), funR1 fs (mem1 fs))] (blkF1 (curL sameBlock fs i) (fun _ => true)))
    (fun i => i ≤ fs.length) (fun i => fs.length - i) 0 (Nat.zero_le _) ?_ ?_
  · refine Weak.fam [] rfl (fun i hi => by cases hi) ?_ ?_ ?_ (fun i hi => by cases hi)
    · (repeat' first | exact TLg.nil | refine TLg.cons (GV.imm rfl) ?_ | refine TLg.cons (GV.bp rfl rfl) ?_ | refine TLg.cons (GV.rs rfl rfl ?_ ?_) ?_)
      all_goals rfl
    · exact .old rfl rfl (GB.one (.cons (.rs rfl rfl rfl rfl) .nil) (fun e => by cases e)) (.old rfl rfl (GB.one (GVs.imm rfl) (fun _ => rfl)) (.old rfl rfl (GB_fun1 (fun q hq => .rs (b := blkR1 ((curL sameBlock fs 0).getD q default).blocks) (show blkF1 (curL sameBlock fs 0) (fun _ => true) (1000, q, 0) = _ from blkF1_at (by rw [curL_len]; exact hq) rfl) rfl rfl rfl)) .nil))
    · intro j b e
      obtain ⟨p, rfl, hp, hp2, rfl⟩ := blkF1_some e
      rw [curL_zero] at hp ⊢
      refine HOk.mk rfl (b0 := blkR1 (fs.getD p default).blocks) ?_ (GB_blk1 _)
      show bigH [] (modH1 fs) _ (1000, p, 0) = _
      unfold bigH; rw [modH1_at hp]
  intro i hi
  ((repeat' ((fail_if_success (show AWp _ _ _ (Code.region 7 _ _) _ _)); first | refine AWp_seq ?_ | (refine AWp_reg tok (by rfl) ?_; conv => whnf) | refine AWp_block ?_ | (refine AWp_skip ?_; conv => whnf) | (refine AWp_exit ?_; conv => whnf) | (refine AWp_ret ?_; conv => whnf) | refine AWp_cond rfl (fun hb => ?_) (fun hb => ?_) | (refine @And.intro (underG _ _ _ _) _ ?_ ?_; rotate_left; (conv => whnf); rotate_right))); all_goals (try ((guard_target = underG _ _ _ _); refine underG_none ?_; (all_goals (try simp only [underG, true_and, and_true, Bool.cond_true_left, Bool.cond_false_left, Bool.cond_true_right, Bool.cond_false_right, Bool.or_eq_true, Bool.and_eq_true, Bool.or_eq_false_iff, Bool.and_eq_false_iff, cond_true, cond_false, Bool.not_eq_eq_eq_not, Bool.not_true, Bool.not_false, decide_eq_true_eq, decide_eq_false_iff_not, Int.toNat_natCast, Nat.zero_add, Decidable.not_not, maxL, inn_iff] at *)); all_goals omega)))
  · have hlt : i < fs.length := by simp only [decide_eq_true_eq] at hb; omega
    clear hb
    have hz : 0 + (i : Int).toNat = i := by simp
    have hbl := hl1 i hlt
    refine AWp_weak (Weak.fam (tl := [(1, .bp (1, 0, 0) 0), (2, .bp (2, 0, 0) 0), (3, iv 0), (14, .rs (900, 0, 0) 3 0 fs.length), (15, iv fs.length), (16, iv i), (5, .bp (5, 0, 0) 0)]) (hl := [((1, 0, 0), .row false 1 1 (fun _ => [.rs (900, 0, 0) 3 0 fs.length])), ((2, 0, 0), boxed [.nsl]), ((900, 0, 0), funR1 fs (fun j => sel (Nat.beq j i) (.rs (901, 0, 0) 14 0 (fs.getD i default).blocks.length) (mem1 fs j))), ((5, 0, 0), .row false 3 1 (fun _ => [iv (fs.getD i default).params, iv (fs.getD i default).regs, .rs (901, 0, 0) 14 0 (fs.getD i default).blocks.length])), ((901, 0, 0), blkR1 (mapB sameBlock (fs.getD i default).blocks 0))]) (F := (blkF1 (curL sameBlock fs i) (fun j => !(Nat.beq j i)))) [((901, 0, 0), some (1000, i, 0))] rfl (fun c hc => ?_) ?_ ?_ ?_ (fun i hi => by cases hi)) ?_
    · simp only [tgts, List.mem_singleton] at hc; subst hc
      left
      show blkF1 (curL sameBlock fs i) (fun j => !(Nat.beq j i)) (1000, i, 0) = none
      cases e : blkF1 (curL sameBlock fs i) (fun j => !(Nat.beq j i)) (1000, i, 0) with
      | none => rfl
      | some b => obtain ⟨p, e1, _, e2, _⟩ := blkF1_some e; cases e1; simp at e2
    · (repeat' first | exact TLg.nil | refine TLg.cons (GV.imm rfl) ?_ | refine TLg.cons (GV.bp rfl rfl) ?_ | refine TLg.cons (GV.rs rfl rfl ?_ ?_) ?_)
      all_goals rfl
    · refine .old rfl rfl (GB.one (.cons (.rs rfl rfl rfl rfl) .nil) (fun e => by cases e)) (.old rfl rfl (GB.one (GVs.imm rfl) (fun _ => rfl)) (.old rfl rfl (GB_fun1 (fun q hq => ?_)) (.old rfl rfl (GB.one (.cons (.int (by rw [hz])) (.cons (.int (by rw [hz])) (.cons ?_ .nil))) (fun e => by cases e)) (.old rfl ?_ (GB_blk1 _) .nil))))
      · by_cases e : q = i
        · subst e
          exact .cc (x' := mem1 fs q) rfl (show sel (Nat.beq q q) _ _ = _ from sel_eq) (.rs rfl srcL_hit rfl rfl)
        · exact .cc (x' := mem1 fs q) rfl (show sel (Nat.beq q i) _ _ = _ from sel_ne e) (.rs (b := blkR1 ((curL sameBlock fs i).getD q default).blocks) (show blkF1 (curL sameBlock fs i) (fun j => !(Nat.beq j i)) (1000, q, 0) = _ from blkF1_at (by rw [curL_len]; exact hq) (nbeq e)) (srcL_miss (fun h => e (by cases h))) rfl rfl)
      · exact .cc (x' := .rs (1000, i, 0) 14 0 (fs.getD i default).blocks.length) (show AV.rs (1000, 0 + (i : Int).toNat, 0) 14 0 (fs.getD (0 + (i : Int).toNat) default).blocks.length = _ by rw [hz]) rfl (.rs rfl srcL_hit rfl rfl)
      · show blkF1 (curL sameBlock fs i) (fun _ => true) (1000, i, 0) = _
        rw [blkF1_at (by rw [curL_len]; exact hlt) rfl, curL_at hlt, if_neg (Nat.lt_irrefl i)]
        congr 2
        refine list_ext_getD default (by simp [mapB]) (fun q hq => ?_)
        rw [mapB_at hq, if_neg (Nat.not_lt_zero q)]
    · intro j b e
      obtain ⟨p, rfl, hp, hp2, rfl⟩ := blkF1_some e
      exact HOk.mk (srcL_miss (fun h => by cases h)) (b0 := blkR1 ((curL sameBlock fs i).getD p default).blocks) (show blkF1 (curL sameBlock fs i) (fun _ => true) (1000, p, 0) = _ from blkF1_at hp rfl) (GB_blk1 _)
    (repeat' ((fail_if_success (show AWp _ _ _ (Code.region 8 _ _) _ _)); first | (refine AWp_reg tok (by rfl) ?_; conv => whnf) | refine AWp_block ?_))
    refine AWp_loop (fun k : Nat => mkF [(1, .bp (1, 0, 0) 0), (2, .bp (2, 0, 0) 0), (3, iv 0), (14, .rs (900, 0, 0) 3 0 fs.length), (15, iv fs.length), (16, iv i), (5, .bp (5, 0, 0) 0), (22, iv (fs.getD i default).blocks.length), (23, iv k)] [((1, 0, 0), .row false 1 1 (fun _ => [.rs (900, 0, 0) 3 0 fs.length])), ((2, 0, 0), boxed [.nsl]), ((900, 0, 0), funR1 fs (fun j => sel (Nat.beq j i) (.rs (901, 0, 0) 14 0 (fs.getD i default).blocks.length) (mem1 fs j))), ((5, 0, 0), .row false 3 1 (fun _ => [iv (fs.getD i default).params, iv (fs.getD i default).regs, .rs (901, 0, 0) 14 0 (fs.getD i default).blocks.length])), ((901, 0, 0), blkR1 (mapB sameBlock (fs.getD i default).blocks k))] (blkF1 (curL sameBlock fs i) (fun j => !(Nat.beq j i)))) (fun k => k ≤ (fs.getD i default).blocks.length) (fun k => (fs.getD i default).blocks.length - k) 0 (Nat.zero_le _) ?_ ?_
    · refine Weak.fam [] rfl (fun i hi => by cases hi) ?_ ?_ ?_ (fun i hi => by cases hi)
      · (repeat' first | exact TLg.nil | refine TLg.cons (GV.imm rfl) ?_ | refine TLg.cons (GV.bp rfl rfl) ?_ | refine TLg.cons (GV.rs rfl rfl ?_ ?_) ?_)
        all_goals first | rfl | (rw [mapB_len])
      · exact .old rfl rfl (GB.one (.cons (.rs rfl rfl rfl rfl) .nil) (fun e => by cases e)) (.old rfl rfl (GB.one (GVs.imm rfl) (fun _ => rfl)) (.old rfl rfl (GB_fun1 (fun q hq => keep1 (b := blkR1 ((curL sameBlock fs i).getD q default).blocks) (fun h => show blkF1 (curL sameBlock fs i) (fun j => !(Nat.beq j i)) (1000, q, 0) = _ from blkF1_at (by rw [curL_len]; exact hq) (nbeq h)) rfl rfl rfl)) (.old rfl rfl (GB.one (.cons (.imm rfl) (.cons (.imm rfl) (.cons (.rs rfl rfl rfl rfl) .nil))) (fun e => by cases e)) (.old rfl rfl (GB_blk1 _) .nil))))
      · intro j b e
        obtain ⟨p, rfl, hp, hp2, rfl⟩ := blkF1_some e
        exact HOk.mk rfl (b0 := blkR1 ((curL sameBlock fs i).getD p default).blocks) (show blkF1 (curL sameBlock fs i) (fun j => !(Nat.beq j i)) (1000, p, 0) = _ from blkF1_at hp hp2) (GB_blk1 _)
    intro k hk
    (repeat' ((fail_if_success (show AWp _ _ _ (Code.region 10 _ _) _ _)); first | refine AWp_seq ?_ | (refine AWp_reg tok (by rfl) ?_; conv => whnf) | refine AWp_block ?_ | (refine AWp_skip ?_; conv => whnf) | (refine AWp_exit ?_; conv => whnf) | refine AWp_cond rfl (fun hb => ?_) (fun hb => ?_)))
    · have hkl : k < (fs.getD i default).blocks.length := by simp only [decide_eq_true_eq] at hb; omega
      clear hb
      have hzk : 0 + (k : Int).toNat = k := by simp
      have hml : (mapB sameBlock (fs.getD i default).blocks k).length = (fs.getD i default).blocks.length := mapB_len _ _
      ((repeat' first | (refine AWp_any tok mix (by rfl) ?_; conv => whnf) | (refine @And.intro (underG _ _ _ _) _ ?_ ?_; rotate_left; (conv => whnf); rotate_right)); all_goals (try ((guard_target = underG _ _ _ _); refine underG_none ?_; (all_goals (try simp only [underG, true_and, and_true, Bool.cond_true_left, Bool.cond_false_left, Bool.cond_true_right, Bool.cond_false_right, Bool.or_eq_true, Bool.and_eq_true, Bool.or_eq_false_iff, Bool.and_eq_false_iff, cond_true, cond_false, Bool.not_eq_eq_eq_not, Bool.not_true, Bool.not_false, decide_eq_true_eq, decide_eq_false_iff_not, Int.toNat_natCast, Nat.zero_add, Decidable.not_not, maxL, inn_iff] at *)); all_goals omega)))
      refine .inl ⟨_, _, _, uG (QC.fc (c_sBlock ((mapB sameBlock (fs.getD i default).blocks k).getD (0 + (k : Int).toNat) default)) rfl), ?_⟩
      conv => whnf
      ((repeat' first | (refine AWp_reg tok (by rfl) ?_; conv => whnf) | (refine @And.intro (underG _ _ _ _) _ ?_ ?_; rotate_left; (conv => whnf); rotate_right)); all_goals (try ((guard_target = underG _ _ _ _); refine underG_none ?_; (all_goals (try simp only [underG, true_and, and_true, Bool.cond_true_left, Bool.cond_false_left, Bool.cond_true_right, Bool.cond_false_right, Bool.or_eq_true, Bool.and_eq_true, Bool.or_eq_false_iff, Bool.and_eq_false_iff, cond_true, cond_false, Bool.not_eq_eq_eq_not, Bool.not_true, Bool.not_false, decide_eq_true_eq, decide_eq_false_iff_not, Int.toNat_natCast, Nat.zero_add, Decidable.not_not, maxL, inn_iff] at *)); all_goals omega)))
      refine ⟨k + 1, hkl, by omega, ?_⟩
      refine Weak.fam [] rfl (fun i hi => by cases hi) ?_ ?_ ?_ (fun i hi => by cases hi)
      · (repeat' first | exact TLg.nil | refine TLg.cons (GV.imm rfl) ?_ | refine TLg.cons (GV.bp rfl rfl) ?_ | refine TLg.cons (GV.rs rfl rfl ?_ ?_) ?_ | refine TLg.cons (GV.int ?_) ?_)
        all_goals first | rfl | (simp (disch := omega) only [wrap64]; omega) | omega
      · refine .old rfl rfl (GB.one (.cons (.rs rfl rfl rfl rfl) .nil) (fun e => by cases e)) (.old rfl rfl (GB.one (GVs.imm rfl) (fun _ => rfl)) (.old rfl rfl (GB_fun1 (fun q hq => keep1 (b := blkR1 ((curL sameBlock fs i).getD q default).blocks) (fun h => show blkF1 (curL sameBlock fs i) (fun j => !(Nat.beq j i)) (1000, q, 0) = _ from blkF1_at (by rw [curL_len]; exact hq) (nbeq h)) rfl rfl rfl)) (.old rfl rfl (GB.one (.cons (.imm rfl) (.cons (.imm rfl) (.cons (.rs rfl rfl rfl rfl) .nil))) (fun e => by cases e)) (.old rfl rfl (GB.row (Nat.le_of_eq (by rw [mapB_len, mapB_len])) (fun q hq => GVs.upd (fun e => ?_) (fun e => ?_)) (fun _ _ _ => rfl)) .nil))))
        · rw [hzk] at e; subst e
          rw [mapB_len] at hq
          exact GVs.eqI rfl (by rw [hzk, mapB_at hq, if_neg (Nat.lt_irrefl q), mapB_at hq, if_pos (Nat.lt_succ_self q)]; rfl)
        · rw [hzk] at e
          rw [mapB_len] at hq
          refine GVs.eqI rfl ?_
          rw [mapB_at hq, mapB_at hq]
          by_cases h1 : q < k
          · rw [if_pos h1, if_pos (by omega)]
          · rw [if_neg h1, if_neg (by omega)]
      · intro j b e
        obtain ⟨p, rfl, hp, hp2, rfl⟩ := blkF1_some e
        exact HOk.mk rfl (b0 := blkR1 ((curL sameBlock fs i).getD p default).blocks) (show blkF1 (curL sameBlock fs i) (fun j => !(Nat.beq j i)) (1000, p, 0) = _ from blkF1_at hp hp2) (GB_blk1 _)
    · have hkl : k = (fs.getD i default).blocks.length := by simp only [decide_eq_false_iff_not] at hb; omega
      clear hb
      subst hkl
      skip
      refine ⟨i + 1, hlt, by omega, ?_⟩
      refine Weak.fam [((1000, i, 0), some (901, 0, 0))] rfl (fun c hc => by simp only [tgts, List.mem_singleton] at hc; subst hc; exact .inl rfl) ?_ ?_ ?_ (fun i hi => by cases hi)
      · (repeat' first | exact TLg.nil | refine TLg.cons (GV.imm rfl) ?_ | refine TLg.cons (GV.bp rfl rfl) ?_ | refine TLg.cons (GV.rs rfl rfl ?_ ?_) ?_ | refine TLg.cons (GV.int ?_) ?_)
        all_goals first | rfl | (simp (disch := omega) only [wrap64]; omega) | omega
      · refine .old rfl rfl (GB.one (.cons (.rs rfl rfl rfl rfl) .nil) (fun e => by cases e)) (.old rfl rfl (GB.one (GVs.imm rfl) (fun _ => rfl)) (.old rfl rfl (GB_fun1 (fun q hq => ?_)) .nil))
        by_cases e : q = i
        · subst e
          exact .cc (show sel (Nat.beq q q) _ _ = _ from sel_eq) rfl (.rs (b := blkR1 ((curL sameBlock fs (q + 1)).getD q default).blocks) (show blkF1 (curL sameBlock fs (q + 1)) (fun _ => true) (1000, q, 0) = _ from blkF1_at (by rw [curL_len]; exact hq) rfl) srcL_hit rfl rfl)
        · exact .cc (show sel (Nat.beq q i) _ _ = _ from sel_ne e) rfl (.rs (b := blkR1 ((curL sameBlock fs (i + 1)).getD q default).blocks) (show blkF1 (curL sameBlock fs (i + 1)) (fun _ => true) (1000, q, 0) = _ from blkF1_at (by rw [curL_len]; exact hq) rfl) (srcL_miss (fun h => e (by cases h; rfl))) rfl rfl)
      · intro j b e
        obtain ⟨p, rfl, hp, hp2, rfl⟩ := blkF1_some e
        rw [curL_len] at hp
        by_cases e : p = i
        · subst e
          refine HOk.mk srcL_hit (b0 := blkR1 (mapB sameBlock (fs.getD p default).blocks (fs.getD p default).blocks.length)) rfl ?_
          rw [curL_at hp, if_pos (Nat.lt_succ_self p)]
          exact GB_blk1 _
        · refine HOk.mk (srcL_miss (fun h => e (by cases h; rfl))) (b0 := blkR1 ((curL sameBlock fs i).getD p default).blocks) (show blkF1 (curL sameBlock fs i) (fun j => !(Nat.beq j i)) (1000, p, 0) = _ from blkF1_at (by rw [curL_len]; exact hp) (nbeq e)) ?_
          rw [curL_at hp, curL_at hp]
          by_cases h1 : p < i
          · rw [if_pos h1, if_pos (by omega)]; exact GB_blk1 _
          · rw [if_neg h1, if_neg (by omega)]; exact GB_blk1 _
  · have hil : i = fs.length := by simp only [decide_eq_false_iff_not] at hb; omega
    clear hb
    subst hil
    refine ⟨_, rfl, Rel.tup (.cons ?_ (.cons (Rel.int (by simp [errM, hr])) .nil))⟩
    rw [show doneM sameBlock ⟨fs⟩ = ⟨curL sameBlock fs fs.length⟩ from by rw [curL_all]; simp [doneM, hr]]
    exact rel_mod (curL_len _ _) (fun j hj => ⟨(curL_sig hj).1, (curL_sig hj).2, curL_blen hj⟩) rfl (fun j hj => show blkF1 (curL sameBlock fs fs.length) (fun _ => true) (1000, j, 0) = _ from blkF1_at (by rw [curL_len]; exact hj) rfl)
end Go.Proofs.Ytmanpbgaihdalaa
namespace Go.Proofs.Ytmanpbgaihdalaa
open Go Dv
set_option maxRecDepth 10000
set_option linter.unusedSimpArgs false
theorem c_rInts (a b : List Int) : FC Try.prog 83 [ints a, ints b] (.bool (decide (a = b))) := by
  refine FC_intro tok Try.func83 rfl (by decide +kernel) (Nat.le_of_ble_eq_true rfl) ?_
  refine AWp_facts 0 (fun hl => ?_)
  have hl0 : a.length ≤ maxL := hl.1
  (repeat' first | refine AWp_seq ?_ | (refine AWp_reg tok (by rfl) ?_; conv => whnf) | refine AWp_block ?_ | (refine AWp_skip ?_; conv => whnf) | (refine AWp_ret ?_; conv => whnf) | refine AWp_cond rfl (fun hb => ?_) (fun hb => ?_))
  · refine ⟨_, rfl, Rel.bool ?_⟩
    symm; rw [decide_eq_false_iff_not]
    intro e; subst e; simp at hb
  have hlen : a.length = b.length := by simp at hb; omega
  clear hb
  refine AWp_loop (fun i : Nat => mkS [(0, ints a), (1, ints b), (5, iv i)] [])
    (fun i => i ≤ a.length ∧ ∀ j, j < i → a.getD j 0 = b.getD j 0) (fun i => a.length - i) 0 ⟨Nat.zero_le _, by simp⟩ ?_ ?_
  · refine Weak.list [] rfl (by rfl) ?_ .nil
    ((repeat' first | exact TLes.nil | refine TLes.cons (TLe.eq rfl) ?_); skip)
  rintro i ⟨hi2, hc⟩
  ((repeat' first | refine AWp_seq ?_ | (refine AWp_reg tok (by rfl) ?_; conv => whnf) | (refine AWp_any tok mix (by rfl) ?_; conv => whnf) | refine AWp_block ?_ | (refine AWp_skip ?_; conv => whnf) | (refine AWp_exit ?_; conv => whnf) | (refine AWp_ret ?_; conv => whnf) | refine AWp_cond rfl (fun hb => ?_) (fun hb => ?_) | (refine @And.intro (underG _ _ _ _) _ ?_ ?_; rotate_left; (conv => whnf); rotate_right)); all_goals (try ((guard_target = underG _ _ _ _); refine underG_none ?_; (all_goals (try simp only [underG, true_and, and_true, Bool.cond_true_left, Bool.cond_false_left, Bool.cond_true_right, Bool.cond_false_right, Bool.or_eq_true, Bool.and_eq_true, Bool.or_eq_false_iff, Bool.and_eq_false_iff, cond_true, cond_false, Bool.not_eq_eq_eq_not, Bool.not_true, Bool.not_false, decide_eq_true_eq, decide_eq_false_iff_not, Int.toNat_natCast, Nat.zero_add, Decidable.not_not, maxL, inn_iff] at *)); all_goals omega)))
  · have hlt : i < a.length := by rename_i h; simp only [underG, true_and, and_true, Bool.cond_true_left, Bool.cond_false_left, Bool.cond_true_right, Bool.cond_false_right, Bool.or_eq_true, Bool.and_eq_true, Bool.or_eq_false_iff, Bool.and_eq_false_iff, cond_true, cond_false, Bool.not_eq_eq_eq_not, Bool.not_true, Bool.not_false, decide_eq_true_eq, decide_eq_false_iff_not, Int.toNat_natCast, Nat.zero_add, Decidable.not_not, maxL, inn_iff] at *; omega
    refine ⟨_, rfl, Rel.bool ?_⟩
    symm; rw [decide_eq_false_iff_not]
    intro e; subst e; simp at hb
  · have hlt : i < a.length := by rename_i h; simp only [underG, true_and, and_true, Bool.cond_true_left, Bool.cond_false_left, Bool.cond_true_right, Bool.cond_false_right, Bool.or_eq_true, Bool.and_eq_true, Bool.or_eq_false_iff, Bool.and_eq_false_iff, cond_true, cond_false, Bool.not_eq_eq_eq_not, Bool.not_true, Bool.not_false, decide_eq_true_eq, decide_eq_false_iff_not, Int.toNat_natCast, Nat.zero_add, Decidable.not_not, maxL, inn_iff] at *; omega
    refine ⟨i + 1, ⟨hlt, fun j hj => ?_⟩, by omega, ?_⟩
    · by_cases e : j = i
      · subst e; simpa using hb
      · exact hc j (by omega)
    refine Weak.list [] rfl (by rfl) ?_ .nil
    ((repeat' first | exact TLes.nil | refine TLes.cons (TLe.eq rfl) ?_ | refine TLes.cons (TLe.int ?_) ?_); (all_goals first | ((try (simp only [underG, true_and, and_true, Bool.cond_true_left, Bool.cond_false_left, Bool.cond_true_right, Bool.cond_false_right, Bool.or_eq_true, Bool.and_eq_true, Bool.or_eq_false_iff, Bool.and_eq_false_iff, cond_true, cond_false, Bool.not_eq_eq_eq_not, Bool.not_true, Bool.not_false, decide_eq_true_eq, decide_eq_false_iff_not, Int.toNat_natCast, Nat.zero_add, Decidable.not_not, maxL, inn_iff] at *)); exact wrap64 (by omega) (by omega)) | skip))
  · refine ⟨_, rfl, Rel.bool ?_⟩
    symm; rw [decide_eq_true_eq]
    exact list_ext_getD 0 hlen (fun j hj => hc j (by simp only [underG, true_and, and_true, Bool.cond_true_left, Bool.cond_false_left, Bool.cond_true_right, Bool.cond_false_right, Bool.or_eq_true, Bool.and_eq_true, Bool.or_eq_false_iff, Bool.and_eq_false_iff, cond_true, cond_false, Bool.not_eq_eq_eq_not, Bool.not_true, Bool.not_false, decide_eq_true_eq, decide_eq_false_iff_not, Int.toNat_natCast, Nat.zero_add, Decidable.not_not, maxL, inn_iff] at *; omega))
theorem c_rSameIns (x y : Ins) : FC Try.prog 38 [.agg (encIns x), .agg (encIns y)] (.bool (decide (x = y))) := by
  refine FC_intro tok Try.func38 rfl (by decide +kernel) (Nat.le_of_ble_eq_true rfl) ?_
  (repeat' first | refine AWp_seq ?_ | (refine AWp_reg tok (by rfl) ?_; conv => whnf))
  refine .inl ⟨_, _, _, uG (QC.fc (c_rInts x.args y.args) rfl), ?_⟩
  conv => whnf
  (repeat' (refine AWp_ret ?_; conv => whnf))
  refine ⟨_, rfl, Rel.bool ?_⟩
  obtain ⟨a1, a2, a3, a4, a5, a6, a7⟩ := x
  obtain ⟨b1, b2, b3, b4, b5, b6, b7⟩ := y
  rw [Bool.eq_iff_iff]
  simp [and_assoc]
theorem c_rSameEnd (x y : End) : FC Try.prog 37 [.agg (encEnd x), .agg (encEnd y)] (.bool (decide (x = y))) := by
  refine FC_intro tok Try.func37 rfl (by decide +kernel) (Nat.le_of_ble_eq_true rfl) ?_
  (repeat' first | refine AWp_seq ?_ | (refine AWp_reg tok (by rfl) ?_; conv => whnf))
  refine .inl ⟨_, _, _, uG (QC.fc (c_rInts x.args y.args) rfl), ?_⟩
  conv => whnf
  (repeat' (refine AWp_ret ?_; conv => whnf))
  refine ⟨_, rfl, Rel.bool ?_⟩
  obtain ⟨a1, a2, a3, a4, a5, a6, a7, a8⟩ := x
  obtain ⟨b1, b2, b3, b4, b5, b6, b7, b8⟩ := y
  rw [Bool.eq_iff_iff]
  simp [and_assoc]
theorem c_rSamePad (x y : Pad) : FC Try.prog 65 [.agg (encPad x), .agg (encPad y)] (.bool (decide (x = y))) := by
  refine FC_intro tok Try.func65 rfl (by decide +kernel) (Nat.le_of_ble_eq_true rfl) ?_
  refine AWp_facts 0 (fun hl => ?_)
  have hl0 : x.catch_.length ≤ maxL := hl.2.1.1
  obtain ⟨a1, a2, a3, a4⟩ := x
  obtain ⟨b1, b2, b3, b4⟩ := y
  simp only at hl0
  (repeat' first | refine AWp_seq ?_ | (refine AWp_reg tok (by rfl) ?_; conv => whnf) | refine AWp_block ?_ | (refine AWp_skip ?_; conv => whnf) | (refine AWp_ret ?_; conv => whnf) | refine AWp_cond rfl (fun hb => ?_) (fun hb => ?_))
  · refine ⟨_, rfl, Rel.bool ?_⟩
    symm; rw [decide_eq_false_iff_not]
    intro e; cases e; simp at hb
  have hall : a1 = b1 ∧ a3 = b3 ∧ a4 = b4 ∧ a2.length = b2.length := by
    simp [and_assoc] at hb
    refine ⟨hb.1, hb.2.1, hb.2.2.1, ?_⟩
    have := hb.2.2.2; omega
  clear hb
  obtain ⟨rfl, rfl, rfl, hlen⟩ := hall
  refine AWp_loop (fun i : Nat => mkS [(2, .bp (2, 0, 0) 0), (3, .bp (3, 0, 0) 0), (5, iv i)] [((2, 0, 0), boxed (encPad ⟨a1, a2, a3, a4⟩)), ((3, 0, 0), boxed (encPad ⟨a1, b2, a3, a4⟩))])
    (fun i => i ≤ a2.length ∧ ∀ j, j < i → a2.getD j 0 = b2.getD j 0) (fun i => a2.length - i) 0 ⟨Nat.zero_le _, by simp⟩ ?_ ?_
  · refine Weak.list [((2, 0, 0), .old (2, 0, 0), boxed (encPad ⟨a1, a2, a3, a4⟩)), ((3, 0, 0), .old (3, 0, 0), boxed (encPad ⟨a1, b2, a3, a4⟩))] rfl (by rfl) ?_ (.old rfl (BLe.refl _) (.old rfl (BLe.refl _) .nil))
    ((repeat' first | exact TLes.nil | refine TLes.cons (TLe.eq rfl) ?_); skip)
  rintro i ⟨hi2, hc⟩
  ((repeat' first | refine AWp_seq ?_ | (refine AWp_reg tok (by rfl) ?_; conv => whnf) | (refine AWp_any tok mix (by rfl) ?_; conv => whnf) | refine AWp_block ?_ | (refine AWp_skip ?_; conv => whnf) | (refine AWp_exit ?_; conv => whnf) | (refine AWp_ret ?_; conv => whnf) | refine AWp_cond rfl (fun hb => ?_) (fun hb => ?_) | (refine @And.intro (underG _ _ _ _) _ ?_ ?_; rotate_left; (conv => whnf); rotate_right)); all_goals (try ((guard_target = underG _ _ _ _); refine underG_none ?_; (all_goals (try simp only [underG, true_and, and_true, Bool.cond_true_left, Bool.cond_false_left, Bool.cond_true_right, Bool.cond_false_right, Bool.or_eq_true, Bool.and_eq_true, Bool.or_eq_false_iff, Bool.and_eq_false_iff, cond_true, cond_false, Bool.not_eq_eq_eq_not, Bool.not_true, Bool.not_false, decide_eq_true_eq, decide_eq_false_iff_not, Int.toNat_natCast, Nat.zero_add, Decidable.not_not, maxL, inn_iff] at *)); all_goals omega)))
  · have hlt : i < a2.length := by rename_i h; simp only [underG, true_and, and_true, Bool.cond_true_left, Bool.cond_false_left, Bool.cond_true_right, Bool.cond_false_right, Bool.or_eq_true, Bool.and_eq_true, Bool.or_eq_false_iff, Bool.and_eq_false_iff, cond_true, cond_false, Bool.not_eq_eq_eq_not, Bool.not_true, Bool.not_false, decide_eq_true_eq, decide_eq_false_iff_not, Int.toNat_natCast, Nat.zero_add, Decidable.not_not, maxL, inn_iff] at *; omega
    refine ⟨_, rfl, Rel.bool ?_⟩
    symm; rw [decide_eq_false_iff_not]
    intro e; cases e; simp at hb
  · have hlt : i < a2.length := by rename_i h; simp only [underG, true_and, and_true, Bool.cond_true_left, Bool.cond_false_left, Bool.cond_true_right, Bool.cond_false_right, Bool.or_eq_true, Bool.and_eq_true, Bool.or_eq_false_iff, Bool.and_eq_false_iff, cond_true, cond_false, Bool.not_eq_eq_eq_not, Bool.not_true, Bool.not_false, decide_eq_true_eq, decide_eq_false_iff_not, Int.toNat_natCast, Nat.zero_add, Decidable.not_not, maxL, inn_iff] at *; omega
    refine ⟨i + 1, ⟨hlt, fun j hj => ?_⟩, by omega, ?_⟩
    · by_cases e : j = i
      · subst e; simpa using hb
      · exact hc j (by omega)
    refine Weak.list [((2, 0, 0), .old (2, 0, 0), boxed (encPad ⟨a1, a2, a3, a4⟩)), ((3, 0, 0), .old (3, 0, 0), boxed (encPad ⟨a1, b2, a3, a4⟩))] rfl (by rfl) ?_ (.old rfl (BLe.refl _) (.old rfl (BLe.refl _) .nil))
    ((repeat' first | exact TLes.nil | refine TLes.cons (TLe.eq rfl) ?_ | refine TLes.cons (TLe.int ?_) ?_); (all_goals first | ((try (simp only [underG, true_and, and_true, Bool.cond_true_left, Bool.cond_false_left, Bool.cond_true_right, Bool.cond_false_right, Bool.or_eq_true, Bool.and_eq_true, Bool.or_eq_false_iff, Bool.and_eq_false_iff, cond_true, cond_false, Bool.not_eq_eq_eq_not, Bool.not_true, Bool.not_false, decide_eq_true_eq, decide_eq_false_iff_not, Int.toNat_natCast, Nat.zero_add, Decidable.not_not, maxL, inn_iff] at *)); exact wrap64 (by omega) (by omega)) | skip))
  · refine ⟨_, rfl, Rel.bool ?_⟩
    symm; rw [decide_eq_true_eq]
    rw [list_ext_getD 0 hlen (fun j hj => hc j (by simp only [underG, true_and, and_true, Bool.cond_true_left, Bool.cond_false_left, Bool.cond_true_right, Bool.cond_false_right, Bool.or_eq_true, Bool.and_eq_true, Bool.or_eq_false_iff, Bool.and_eq_false_iff, cond_true, cond_false, Bool.not_eq_eq_eq_not, Bool.not_true, Bool.not_false, decide_eq_true_eq, decide_eq_false_iff_not, Int.toNat_natCast, Nat.zero_add, Decidable.not_not, maxL, inn_iff] at *; omega))]
theorem c_rSameFunc (x y : Func) : FC Try.prog 44 [.agg (encFunc x), .agg (encFunc y)] (.bool (decide (x = y))) := by
  refine FC_intro tok Try.func44 rfl (by decide +kernel) (Nat.le_of_ble_eq_true rfl) ?_
  refine AWp_facts 0 (fun hl => ?_)
  have hl0 : x.blocks.length ≤ maxL := hl.2.2.1.1
  have hl1 : ∀ i, i < x.blocks.length → (x.blocks.getD i default).ins.length ≤ maxL := fun i hi => (hl.2.2.1.2 i hi).2.2.2.2.2.1.1
  have hmx : maxL = 4294967296 := rfl
  clear hl
  obtain ⟨a1, a2, a3⟩ := x
  obtain ⟨b1, b2, b3⟩ := y
  simp only at hl0 hl1
  (repeat' first | refine AWp_seq ?_ | (refine AWp_reg tok (by rfl) ?_; conv => whnf) | refine AWp_block ?_ | (refine AWp_skip ?_; conv => whnf) | (refine AWp_ret ?_; conv => whnf) | refine AWp_cond rfl (fun hb => ?_) (fun hb => ?_))
  · refine ⟨_, rfl, Rel.bool ?_⟩
    symm; rw [decide_eq_false_iff_not]
    intro e; cases e; simp at hb
  have hall : a1 = b1 ∧ a2 = b2 ∧ a3.length = b3.length := by
    simp [and_assoc] at hb
    refine ⟨hb.1, hb.2.1, ?_⟩
    have := hb.2.2; omega
  clear hb
  obtain ⟨rfl, rfl, hlen⟩ := hall
  refine AWp_loop (fun i : Nat => mkS [(2, .bp (2, 0, 0) 0), (3, .bp (3, 0, 0) 0), (5, iv i)] [((2, 0, 0), boxed (encFunc ⟨a1, a2, a3⟩)), ((3, 0, 0), boxed (encFunc ⟨a1, a2, b3⟩))])
    (fun i => i ≤ a3.length ∧ ∀ j, j < i → a3.getD j default = b3.getD j default) (fun i => a3.length - i) 0 ⟨Nat.zero_le _, by simp⟩ ?_ ?_
  · refine Weak.list [((2, 0, 0), .old (2, 0, 0), boxed (encFunc ⟨a1, a2, a3⟩)), ((3, 0, 0), .old (3, 0, 0), boxed (encFunc ⟨a1, a2, b3⟩))] rfl (by rfl) ?_ (.old rfl (BLe.refl _) (.old rfl (BLe.refl _) .nil))
    ((repeat' first | exact TLes.nil | refine TLes.cons (TLe.eq rfl) ?_); skip)
  rintro i ⟨hi2, hc⟩
  ((repeat' ((fail_if_success (show AWp _ _ _ (Code.region 7 _ _) _ _)); first | refine AWp_seq ?_ | (refine AWp_reg tok (by rfl) ?_; conv => whnf) | (refine AWp_any tok mix (by rfl) ?_; conv => whnf) | refine AWp_block ?_ | (refine AWp_skip ?_; conv => whnf) | (refine AWp_exit ?_; conv => whnf) | (refine AWp_ret ?_; conv => whnf) | refine AWp_cond rfl (fun hb => ?_) (fun hb => ?_) | (refine @And.intro (underG _ _ _ _) _ ?_ ?_; rotate_left; (conv => whnf); rotate_right))); all_goals (try ((guard_target = underG _ _ _ _); refine underG_none ?_; (all_goals (try simp only [underG, true_and, and_true, Bool.cond_true_left, Bool.cond_false_left, Bool.cond_true_right, Bool.cond_false_right, Bool.or_eq_true, Bool.and_eq_true, Bool.or_eq_false_iff, Bool.and_eq_false_iff, cond_true, cond_false, Bool.not_eq_eq_eq_not, Bool.not_true, Bool.not_false, decide_eq_true_eq, decide_eq_false_iff_not, Int.toNat_natCast, Nat.zero_add, Decidable.not_not, maxL, inn_iff] at *)); all_goals omega)))
  · have hlt : i < a3.length := by simp only [decide_eq_true_eq] at hb; omega
    clear hb
    have hil := hl1 i hlt
    have hii : (i : Int).toNat = i := Int.toNat_natCast i
    have hgen : ∃ p, a3.getD i default = p := ⟨_, rfl⟩
    obtain ⟨p, hp⟩ := hgen
    have hgen : ∃ q, b3.getD i default = q := ⟨_, rfl⟩
    obtain ⟨q, hq⟩ := hgen
    refine AWp_weak (Weak.list (tl := [(2, .bp (2, 0, 0) 0), (3, .bp (3, 0, 0) 0), (5, iv i), (6, .bp (6, 0, 0) 0), (7, .bp (7, 0, 0) 0)]) [((2, 0, 0), .old (2, 0, 0), boxed (encFunc ⟨a1, a2, a3⟩)), ((3, 0, 0), .old (3, 0, 0), boxed (encFunc ⟨a1, a2, b3⟩)), ((6, 0, 0), .old (6, 0, 0), .row true 14 1 (fun _ => encBlock p)), ((7, 0, 0), .old (7, 0, 0), .row true 14 1 (fun _ => encBlock q))] rfl (by rfl) ?_ (.old rfl (BLe.refl _) (.old rfl (BLe.refl _) (.old rfl (BLe.rowW (Nat.le_refl _) (ltS (Wks.of (by rw [← hp]; rfl)) lt0)) (.old rfl (BLe.rowW (Nat.le_refl _) (ltS (Wks.of (by rw [← hq]; rfl)) lt0)) .nil))))) ?_
    · (repeat' first | exact TLes.nil | refine TLes.cons (TLe.eq rfl) ?_)
    have hne : p ≠ q → (⟨a1, a2, a3⟩ : Func) ≠ ⟨a1, a2, b3⟩ := fun h e => by cases e; exact h (hp.symm.trans hq)
    rw [hp] at hil
    (repeat' (refine AWp_reg tok (by rfl) ?_; conv => whnf))
    refine .inl ⟨_, _, _, uG (QC.fc (c_rSamePad p.pad q.pad) rfl), ?_⟩
    conv => whnf
    skip
    refine .inl ⟨_, _, _, uG (QC.fc (c_rSameEnd p.fin q.fin) rfl), ?_⟩
    conv => whnf
    (repeat' first | refine AWp_seq ?_ | (refine AWp_reg tok (by rfl) ?_; conv => whnf) | refine AWp_block ?_ | (refine AWp_skip ?_; conv => whnf) | (refine AWp_ret ?_; conv => whnf) | refine AWp_cond rfl (fun hb => ?_) (fun hb => ?_))
    · refine ⟨_, rfl, Rel.bool ?_⟩
      symm; rw [decide_eq_false_iff_not]
      refine hne (fun e => ?_)
      subst e; simp at hb
    have hall : p.landing = q.landing ∧ p.pad = q.pad ∧ p.fin = q.fin ∧ p.ins.length = q.ins.length := by
      simp [and_assoc] at hb
      refine ⟨hb.1, hb.2.1, hb.2.2.1, ?_⟩
      have := hb.2.2.2; omega
    clear hb
    obtain ⟨e1, e2, e3, e4⟩ := hall
    refine AWp_loop (fun k : Nat => mkS [(2, .bp (2, 0, 0) 0), (3, .bp (3, 0, 0) 0), (5, iv i), (6, .bp (6, 0, 0) 0), (7, .bp (7, 0, 0) 0), (8, iv k)] [((2, 0, 0), boxed (encFunc ⟨a1, a2, a3⟩)), ((3, 0, 0), boxed (encFunc ⟨a1, a2, b3⟩)), ((6, 0, 0), .row true 14 1 (fun _ => encBlock p)), ((7, 0, 0), .row true 14 1 (fun _ => encBlock q))])
      (fun k => k ≤ p.ins.length ∧ ∀ j, j < k → p.ins.getD j default = q.ins.getD j default) (fun k => p.ins.length - k) 0 ⟨Nat.zero_le _, by simp⟩ ?_ ?_
    · refine Weak.list [((2, 0, 0), .old (2, 0, 0), boxed (encFunc ⟨a1, a2, a3⟩)), ((3, 0, 0), .old (3, 0, 0), boxed (encFunc ⟨a1, a2, b3⟩)), ((6, 0, 0), .old (6, 0, 0), .row true 14 1 (fun _ => encBlock p)), ((7, 0, 0), .old (7, 0, 0), .row true 14 1 (fun _ => encBlock q))] rfl (by rfl) ?_ (.old rfl (BLe.refl _) (.old rfl (BLe.refl _) (.old rfl (BLe.refl _) (.old rfl (BLe.refl _) .nil))))
      ((repeat' first | exact TLes.nil | refine TLes.cons (TLe.eq rfl) ?_); skip)
    rintro k ⟨hk2, hc2⟩
    ((repeat' first | refine AWp_seq ?_ | (refine AWp_reg tok (by rfl) ?_; conv => whnf) | (refine AWp_any tok mix (by rfl) ?_; conv => whnf) | refine AWp_block ?_ | (refine AWp_skip ?_; conv => whnf) | (refine AWp_exit ?_; conv => whnf) | refine AWp_cond rfl (fun hb => ?_) (fun hb => ?_) | (refine @And.intro (underG _ _ _ _) _ ?_ ?_; rotate_left; (conv => whnf); rotate_right)); all_goals (try ((guard_target = underG _ _ _ _); refine underG_none ?_; (all_goals (try simp only [underG, true_and, and_true, Bool.cond_true_left, Bool.cond_false_left, Bool.cond_true_right, Bool.cond_false_right, Bool.or_eq_true, Bool.and_eq_true, Bool.or_eq_false_iff, Bool.and_eq_false_iff, cond_true, cond_false, Bool.not_eq_eq_eq_not, Bool.not_true, Bool.not_false, decide_eq_true_eq, decide_eq_false_iff_not, Int.toNat_natCast, Nat.zero_add, Decidable.not_not, maxL, inn_iff] at *)); all_goals omega)))
    · have hlt2 : k < p.ins.length := by simp only [underG, true_and, and_true, Bool.cond_true_left, Bool.cond_false_left, Bool.cond_true_right, Bool.cond_false_right, Bool.or_eq_true, Bool.and_eq_true, Bool.or_eq_false_iff, Bool.and_eq_false_iff, cond_true, cond_false, Bool.not_eq_eq_eq_not, Bool.not_true, Bool.not_false, decide_eq_true_eq, decide_eq_false_iff_not, Int.toNat_natCast, Nat.zero_add, Decidable.not_not, maxL, inn_iff] at *; omega
      refine .inl ⟨_, _, _, uG (QC.fc (c_rSameIns (p.ins.getD (k : Int).toNat default) (q.ins.getD (k : Int).toNat default)) rfl), ?_⟩
      conv => whnf
      (repeat' first | refine AWp_seq ?_ | (refine AWp_reg tok (by rfl) ?_; conv => whnf) | (refine AWp_skip ?_; conv => whnf) | (refine AWp_ret ?_; conv => whnf) | refine AWp_cond rfl (fun hb => ?_) (fun hb => ?_))
      · refine ⟨_, rfl, Rel.bool ?_⟩
        symm; rw [decide_eq_false_iff_not]
        refine hne (fun e => ?_)
        subst e; simp at hb
      · refine ⟨k + 1, ⟨hlt2, fun j hj => ?_⟩, by omega, ?_⟩
        · by_cases e : j = k
          · subst e; simpa using hb
          · exact hc2 j (by omega)
        refine Weak.list [((2, 0, 0), .old (2, 0, 0), boxed (encFunc ⟨a1, a2, a3⟩)), ((3, 0, 0), .old (3, 0, 0), boxed (encFunc ⟨a1, a2, b3⟩)), ((6, 0, 0), .old (6, 0, 0), .row true 14 1 (fun _ => encBlock p)), ((7, 0, 0), .old (7, 0, 0), .row true 14 1 (fun _ => encBlock q))] rfl (by rfl) ?_ (.old rfl (BLe.refl _) (.old rfl (BLe.refl _) (.old rfl (BLe.refl _) (.old rfl (BLe.refl _) .nil))))
        ((repeat' first | exact TLes.nil | refine TLes.cons (TLe.eq rfl) ?_ | refine TLes.cons (TLe.int ?_) ?_); (all_goals first | ((try (simp only [underG, true_and, and_true, Bool.cond_true_left, Bool.cond_false_left, Bool.cond_true_right, Bool.cond_false_right, Bool.or_eq_true, Bool.and_eq_true, Bool.or_eq_false_iff, Bool.and_eq_false_iff, cond_true, cond_false, Bool.not_eq_eq_eq_not, Bool.not_true, Bool.not_false, decide_eq_true_eq, decide_eq_false_iff_not, Int.toNat_natCast, Nat.zero_add, Decidable.not_not, maxL, inn_iff] at *)); exact wrap64 (by omega) (by omega)) | skip))
    · have hk3 : k = p.ins.length := by simp only [underG, true_and, and_true, Bool.cond_true_left, Bool.cond_false_left, Bool.cond_true_right, Bool.cond_false_right, Bool.or_eq_true, Bool.and_eq_true, Bool.or_eq_false_iff, Bool.and_eq_false_iff, cond_true, cond_false, Bool.not_eq_eq_eq_not, Bool.not_true, Bool.not_false, decide_eq_true_eq, decide_eq_false_iff_not, Int.toNat_natCast, Nat.zero_add, Decidable.not_not, maxL, inn_iff] at *; omega
      have hpq : p = q := by
        have e5 : p.ins = q.ins := list_ext_getD default e4 (fun j hj => hc2 j (by omega))
        obtain ⟨p1, p2, p3, p4⟩ := p
        obtain ⟨q1, q2, q3, q4⟩ := q
        simp only at e1 e2 e3 e5
        subst e1; subst e2; subst e3; subst e5; rfl
      refine ⟨i + 1, ⟨hlt, fun j hj => ?_⟩, by omega, ?_⟩
      · by_cases e : j = i
        · subst e; rw [hp, hq, hpq]
        · exact hc j (by omega)
      refine Weak.list [((2, 0, 0), .old (2, 0, 0), boxed (encFunc ⟨a1, a2, a3⟩)), ((3, 0, 0), .old (3, 0, 0), boxed (encFunc ⟨a1, a2, b3⟩))] rfl (by rfl) ?_ (.old rfl (BLe.refl _) (.old rfl (BLe.refl _) .nil))
      ((repeat' first | exact TLes.nil | refine TLes.cons (TLe.eq rfl) ?_ | refine TLes.cons (TLe.int ?_) ?_); (all_goals first | ((try (simp only [underG, true_and, and_true, Bool.cond_true_left, Bool.cond_false_left, Bool.cond_true_right, Bool.cond_false_right, Bool.or_eq_true, Bool.and_eq_true, Bool.or_eq_false_iff, Bool.and_eq_false_iff, cond_true, cond_false, Bool.not_eq_eq_eq_not, Bool.not_true, Bool.not_false, decide_eq_true_eq, decide_eq_false_iff_not, Int.toNat_natCast, Nat.zero_add, Decidable.not_not, maxL, inn_iff] at *)); exact wrap64 (by omega) (by omega)) | skip))
  · refine ⟨_, rfl, Rel.bool ?_⟩
    symm; rw [decide_eq_true_eq]
    rw [list_ext_getD default hlen (fun j hj => hc j (by simp only [underG, true_and, and_true, Bool.cond_true_left, Bool.cond_false_left, Bool.cond_true_right, Bool.cond_false_right, Bool.or_eq_true, Bool.and_eq_true, Bool.or_eq_false_iff, Bool.and_eq_false_iff, cond_true, cond_false, Bool.not_eq_eq_eq_not, Bool.not_true, Bool.not_false, decide_eq_true_eq, decide_eq_false_iff_not, Int.toNat_natCast, Nat.zero_add, Decidable.not_not, maxL, inn_iff] at *; omega))]
theorem c_rSame (x y : Module) : FC Try.prog 28 [.agg (encMod x), .agg (encMod y)] (.bool (decide (x = y))) := by
  refine FC_intro tok Try.func28 rfl (by decide +kernel) (Nat.le_of_ble_eq_true rfl) ?_
  refine AWp_facts 0 (fun hl => ?_)
  have hl0 : x.funcs.length ≤ maxL := hl.1.1
  have hmx : maxL = 4294967296 := rfl
  clear hl
  obtain ⟨a⟩ := x
  obtain ⟨b⟩ := y
  simp only at hl0
  (repeat' first | refine AWp_seq ?_ | (refine AWp_reg tok (by rfl) ?_; conv => whnf) | refine AWp_block ?_ | (refine AWp_skip ?_; conv => whnf) | (refine AWp_ret ?_; conv => whnf) | refine AWp_cond rfl (fun hb => ?_) (fun hb => ?_))
  · refine ⟨_, rfl, Rel.bool ?_⟩
    symm; rw [decide_eq_false_iff_not]
    intro e; cases e; simp at hb
  have hlen : a.length = b.length := by simp at hb; omega
  clear hb
  refine AWp_loop (fun i : Nat => mkS [(2, .bp (2, 0, 0) 0), (3, .bp (3, 0, 0) 0), (5, iv i)] [((2, 0, 0), boxed (encMod ⟨a⟩)), ((3, 0, 0), boxed (encMod ⟨b⟩))])
    (fun i => i ≤ a.length ∧ ∀ j, j < i → a.getD j default = b.getD j default) (fun i => a.length - i) 0 ⟨Nat.zero_le _, by simp⟩ ?_ ?_
  · refine Weak.list [((2, 0, 0), .old (2, 0, 0), boxed (encMod ⟨a⟩)), ((3, 0, 0), .old (3, 0, 0), boxed (encMod ⟨b⟩))] rfl (by rfl) ?_ (.old rfl (BLe.refl _) (.old rfl (BLe.refl _) .nil))
    ((repeat' first | exact TLes.nil | refine TLes.cons (TLe.eq rfl) ?_); skip)
  rintro i ⟨hi2, hc⟩
  ((repeat' first | refine AWp_seq ?_ | (refine AWp_reg tok (by rfl) ?_; conv => whnf) | (refine AWp_any tok mix (by rfl) ?_; conv => whnf) | refine AWp_block ?_ | (refine AWp_skip ?_; conv => whnf) | (refine AWp_exit ?_; conv => whnf) | (refine AWp_ret ?_; conv => whnf) | refine AWp_cond rfl (fun hb => ?_) (fun hb => ?_) | (refine @And.intro (underG _ _ _ _) _ ?_ ?_; rotate_left; (conv => whnf); rotate_right)); all_goals (try ((guard_target = underG _ _ _ _); refine underG_none ?_; (all_goals (try simp only [underG, true_and, and_true, Bool.cond_true_left, Bool.cond_false_left, Bool.cond_true_right, Bool.cond_false_right, Bool.or_eq_true, Bool.and_eq_true, Bool.or_eq_false_iff, Bool.and_eq_false_iff, cond_true, cond_false, Bool.not_eq_eq_eq_not, Bool.not_true, Bool.not_false, decide_eq_true_eq, decide_eq_false_iff_not, Int.toNat_natCast, Nat.zero_add, Decidable.not_not, maxL, inn_iff] at *)); all_goals omega)))
  · have hlt : i < a.length := by simp only [underG, true_and, and_true, Bool.cond_true_left, Bool.cond_false_left, Bool.cond_true_right, Bool.cond_false_right, Bool.or_eq_true, Bool.and_eq_true, Bool.or_eq_false_iff, Bool.and_eq_false_iff, cond_true, cond_false, Bool.not_eq_eq_eq_not, Bool.not_true, Bool.not_false, decide_eq_true_eq, decide_eq_false_iff_not, Int.toNat_natCast, Nat.zero_add, Decidable.not_not, maxL, inn_iff] at *; omega
    refine .inl ⟨_, _, _, uG (QC.fc (c_rSameFunc (a.getD (i : Int).toNat default) (b.getD (i : Int).toNat default)) rfl), ?_⟩
    conv => whnf
    (repeat' first | refine AWp_seq ?_ | (refine AWp_reg tok (by rfl) ?_; conv => whnf) | (refine AWp_skip ?_; conv => whnf) | (refine AWp_ret ?_; conv => whnf) | refine AWp_cond rfl (fun hb => ?_) (fun hb => ?_))
    · refine ⟨_, rfl, Rel.bool ?_⟩
      symm; rw [decide_eq_false_iff_not]
      intro e; cases e; simp at hb
    · refine ⟨i + 1, ⟨hlt, fun j hj => ?_⟩, by omega, ?_⟩
      · by_cases e : j = i
        · subst e; simpa using hb
        · exact hc j (by omega)
      refine Weak.list [((2, 0, 0), .old (2, 0, 0), boxed (encMod ⟨a⟩)), ((3, 0, 0), .old (3, 0, 0), boxed (encMod ⟨b⟩))] rfl (by rfl) ?_ (.old rfl (BLe.refl _) (.old rfl (BLe.refl _) .nil))
      ((repeat' first | exact TLes.nil | refine TLes.cons (TLe.eq rfl) ?_ | refine TLes.cons (TLe.int ?_) ?_); (all_goals first | ((try (simp only [underG, true_and, and_true, Bool.cond_true_left, Bool.cond_false_left, Bool.cond_true_right, Bool.cond_false_right, Bool.or_eq_true, Bool.and_eq_true, Bool.or_eq_false_iff, Bool.and_eq_false_iff, cond_true, cond_false, Bool.not_eq_eq_eq_not, Bool.not_true, Bool.not_false, decide_eq_true_eq, decide_eq_false_iff_not, Int.toNat_natCast, Nat.zero_add, Decidable.not_not, maxL, inn_iff] at *)); exact wrap64 (by omega) (by omega)) | skip))
  · refine ⟨_, rfl, Rel.bool ?_⟩
    symm; rw [decide_eq_true_eq]
    rw [list_ext_getD default hlen (fun j hj => hc j (by simp only [underG, true_and, and_true, Bool.cond_true_left, Bool.cond_false_left, Bool.cond_true_right, Bool.cond_false_right, Bool.or_eq_true, Bool.and_eq_true, Bool.or_eq_false_iff, Bool.and_eq_false_iff, cond_true, cond_false, Bool.not_eq_eq_eq_not, Bool.not_true, Bool.not_false, decide_eq_true_eq, decide_eq_false_iff_not, Int.toNat_natCast, Nat.zero_add, Decidable.not_not, maxL, inn_iff] at *; omega))]
end Go.Proofs.Ytmanpbgaihdalaa
namespace Go.Proofs.Ytmanpbgaihdalaa
open Go Dv
set_option maxRecDepth 10000
set_option linter.unusedSimpArgs false
def blkI (m : Module) (n : Nat) (b : Block) : Block := { b with ins := (blockI m n b.ins).1 }
def mostL (m : Module) (n : Nat) (l : List Block) : Int := l.foldl (fun a b => max a (blockI m n b.ins).2) 0
def bigF (m : Module) (n : Nat) : Func := ⟨(m.funcs.getD n default).params, (m.funcs.getD n default).regs + mostL m n (m.funcs.getD n default).blocks, (m.funcs.getD n default).blocks.map (blkI m n)⟩
def funN (m : Module) (n : Nat) : Func := if 256 < (bigF m n).regs then m.funcs.getD n default else bigF m n
theorem moreX_le (m : Module) (n : Nat) (l : List Ins) : 0 ≤ moreX m n l ∧ moreX m n l ≤ 16 := by
  unfold moreX
  have : ∀ (l : List Ins) (a : Int), 0 ≤ a ∧ a ≤ 16 → 0 ≤ l.foldl (mrX m n) a ∧ l.foldl (mrX m n) a ≤ 16 := by
    intro l
    induction l with
    | nil => exact fun a h => h
    | cons x r ih =>
      intro a h
      refine ih _ ?_
      unfold mrX
      split
      · rename_i hx
        unfold inlX at hx
        rw [Bool.and_eq_true] at hx
        have := (smallF_of hx.2).2.1
        omega
      · exact h
  exact this l 0 (by omega)
theorem blockI_le (m : Module) (n : Nat) (l : List Ins) : 0 ≤ (blockI m n l).2 ∧ (blockI m n l).2 ≤ 16 := by
  unfold blockI
  split
  · simp
  · exact moreX_le m n l
theorem mostL_le (m : Module) (n : Nat) (l : List Block) : 0 ≤ mostL m n l ∧ mostL m n l ≤ 16 := by
  unfold mostL
  have : ∀ (l : List Block) (a : Int), 0 ≤ a ∧ a ≤ 16 → 0 ≤ l.foldl (fun a b => max a (blockI m n b.ins).2) a ∧ l.foldl (fun a b => max a (blockI m n b.ins).2) a ≤ 16 := by
    intro l
    induction l with
    | nil => exact fun a h => h
    | cons x r ih =>
      intro a h
      refine ih _ ?_
      have := blockI_le m n x.ins
      show 0 ≤ max a (blockI m n x.ins).2 ∧ max a (blockI m n x.ins).2 ≤ 16
      omega
  exact this l 0 (by omega)
theorem mostL_succ (m : Module) (n : Nat) {l : List Block} {i : Nat} (h : i < l.length) : mostL m n (l.take (i + 1)) = max (mostL m n (l.take i)) (blockI m n (l.getD i default).ins).2 := by
  unfold mostL; rw [take_succ_getD default h, List.foldl_append]; rfl
theorem right_ins {m : Module} (h : rightB m = true) {n i : Nat} (hn : n < m.funcs.length) (hi : i < (m.funcs.getD n default).blocks.length) : ((m.funcs.getD n default).blocks.getD i default).ins.length ≤ 64 := by
  have := func_blocks (right_funcs h hn) hi
  unfold blkB at this
  rw [Bool.and_eq_true, decide_eq_true_eq] at this
  exact this.1.1
theorem right_fun {m : Module} (h : rightB m = true) {n : Nat} (hn : n < m.funcs.length) : FunP (m.funcs.getD n default) := by
  have := right_funcs h hn
  unfold funcB at this
  rw [Bool.and_eq_true, decide_eq_true_eq] at this
  exact this.1
theorem mapB_nil {B : Block → Block} (l : List Block) : mapB B l 0 = l := by
  refine list_ext_getD default (by simp [mapB]) (fun i hi => ?_)
  rw [mapB_len] at hi
  rw [mapB_at hi, if_neg (Nat.not_lt_zero i)]
abbrev fcells (f : Func) (r : Int) : List AV := [iv f.params, iv r, .rs (901, 0, 0) 14 0 f.blocks.length]
set_option maxHeartbeats 4000000 in
theorem c_iFuncN (m : Module) (n : Nat) (hr : rightB m = true) (hn : n < m.funcs.length) : FC Try.prog 41 [.agg (encMod m), iv n] (.agg (encFunc (funN m n))) := by
  obtain ⟨fs⟩ := m
  simp only at hn
  have hgen : ∃ f, fs.getD n default = f := ⟨_, rfl⟩
  obtain ⟨f, hf⟩ := hgen
  have hF : FunP f := hf ▸ right_fun hr hn
  refine FC_intro tok Try.func41 rfl (by decide +kernel) (Nat.le_of_ble_eq_true rfl) ?_
  refine AWp_facts 0 (fun hl => ?_)
  have hl0 : fs.length ≤ maxL := hl.1.1
  have hmx : maxL = 4294967296 := rfl
  clear hl
  have hz : 0 + (n : Int).toNat = n := by simp
  have hfb : f.blocks.length ≤ 64 := hF.2.2.2.2.2.1
  (repeat' first | refine AWp_seq ?_ | (refine AWp_reg tok (by rfl) ?_; conv => whnf))
  refine .inl ⟨_, _, _, uG (QC.fc (c_lRight c_lpad ⟨fs⟩) rfl), ?_⟩
  conv => whnf
  (repeat' ((fail_if_success (show AWp _ _ _ (Code.region 2 _ _) _ _)); first | refine AWp_seq ?_ | (refine AWp_reg tok (by rfl) ?_; conv => whnf) | (refine AWp_skip ?_; conv => whnf) | refine AWp_cond rfl (fun hb => ?_) (fun hb => ?_)))
  · exfalso
    rw [hr] at hb
    simp at hb
    omega
  clear hb
  skip
  refine .inr ⟨_, _, _, uG (QH.ofF (c_Copy1 fs) rfl (fun i hi => by rcases modH1_dom hi with rfl | ⟨j, rfl⟩ <;> rfl)), ?_⟩
  conv => whnf
  ((repeat' ((fail_if_success (show AWp _ _ _ (Code.region 5 _ _) _ _)); first | refine AWp_seq ?_ | (refine AWp_reg tok (by rfl) ?_; conv => whnf) | (refine @And.intro (underG _ _ _ _) _ ?_ ?_; rotate_left; (conv => whnf); rotate_right))); all_goals (try ((guard_target = underG _ _ _ _); refine underG_none ?_; (all_goals (try simp only [underG, true_and, and_true, Bool.cond_true_left, Bool.cond_false_left, Bool.cond_true_right, Bool.cond_false_right, Bool.or_eq_true, Bool.and_eq_true, Bool.or_eq_false_iff, Bool.and_eq_false_iff, cond_true, cond_false, Bool.not_eq_eq_eq_not, Bool.not_true, Bool.not_false, decide_eq_true_eq, decide_eq_false_iff_not, Int.toNat_natCast, Nat.zero_add, Decidable.not_not, maxL, inn_iff] at *)); all_goals omega)))
  have hZ : boxed [iv 0, iv 0, .nsl] = boxed [iv 0, iv 0, .nsl] := rfl
  clear hZ
  refine AWp_weak (Weak.fam (tl := [(1, iv n), (2, .bp (2, 0, 0) 0), (4, .bp (4, 0, 0) 0), (6, .bp (6, 0, 0) 0)]) (hl := [((2, 0, 0), boxed (encMod ⟨fs⟩)), ((4, 0, 0), boxed [iv 0, iv 0, .nsl]), ((6, 0, 0), .row false 3 1 (fun _ => fcells f f.regs)), ((901, 0, 0), blkR1 (mapB (blkI ⟨fs⟩ n) f.blocks 0))]) (F := noH) [((901, 0, 0), some (1000, n, 0))] rfl (fun c hc => by simp only [tgts, List.mem_singleton] at hc; subst hc; exact .inl rfl) ?_ ?_ noF (fun i hi => by cases hi)) ?_
  · (repeat' first | exact TLg.nil | refine TLg.cons (GV.imm rfl) ?_ | refine TLg.cons (GV.bp rfl rfl) ?_)
    all_goals rfl
  · refine .old rfl rfl (GB.one (GVs.imm rfl) (fun _ => rfl)) (.old rfl rfl (GB.one (GVs.imm rfl) (fun _ => rfl)) (.old rfl rfl (GB.one (.cons (.int (by rw [hz, hf])) (.cons (.int (by rw [hz, hf])) (.cons ?_ .nil))) (fun e => by cases e)) (.old rfl ?_ (GB_blk1 _) .nil)))
    · exact .cc (x' := .rs (1000, n, 0) 14 0 f.blocks.length) (show AV.rs (1000, 0 + (n : Int).toNat, 0) 14 0 (fs.getD (0 + (n : Int).toNat) default).blocks.length = _ by rw [hz, hf]) rfl (.rs rfl srcL_hit rfl rfl)
    · show bigH [] (modH1 fs) _ (1000, n, 0) = _
      unfold bigH
      rw [modH1_at hn]
      show some (blkR1 (fs.getD n default).blocks) = _
      rw [hf, mapB_nil]
  (repeat' ((fail_if_success (show AWp _ _ _ (Code.region 7 _ _) _ _)); first | refine AWp_seq ?_ | (refine AWp_reg tok (by rfl) ?_; conv => whnf) | refine AWp_block ?_))
  refine AWp_loop (fun k : Nat => mkF [(1, iv n), (2, .bp (2, 0, 0) 0), (4, .bp (4, 0, 0) 0), (6, .bp (6, 0, 0) 0), (7, iv (mostL ⟨fs⟩ n (f.blocks.take k))), (35, iv f.blocks.length), (36, iv k)] [((2, 0, 0), boxed (encMod ⟨fs⟩)), ((4, 0, 0), boxed [iv 0, iv 0, .nsl]), ((6, 0, 0), .row false 3 1 (fun _ => fcells f f.regs)), ((901, 0, 0), blkR1 (mapB (blkI ⟨fs⟩ n) f.blocks k))] noH) (fun k => k ≤ f.blocks.length) (fun k => f.blocks.length - k) 0 (Nat.zero_le _) ?_ ?_
  · refine Weak.fam [] rfl (fun i hi => by cases hi) ?_ ?_ noF (fun i hi => by cases hi)
    · (repeat' first | exact TLg.nil | refine TLg.cons (GV.imm rfl) ?_ | refine TLg.cons (GV.bp rfl rfl) ?_)
      all_goals rfl
    · exact .old rfl rfl (GB.one (GVs.imm rfl) (fun _ => rfl)) (.old rfl rfl (GB.one (GVs.imm rfl) (fun _ => rfl)) (.old rfl rfl (GB.one (.cons (.imm rfl) (.cons (.imm rfl) (.cons (.rs rfl rfl rfl rfl) .nil))) (fun e => by cases e)) (.old rfl rfl (GB_blk1 _) .nil)))
  intro k hk
  (repeat' ((fail_if_success (show AWp _ _ _ (Code.region 8 _ _) _ _)); first | refine AWp_seq ?_ | (refine AWp_reg tok (by rfl) ?_; conv => whnf) | refine AWp_block ?_ | (refine AWp_skip ?_; conv => whnf) | (refine AWp_exit ?_; conv => whnf) | (refine AWp_ret ?_; conv => whnf) | refine AWp_cond rfl (fun hb => ?_) (fun hb => ?_)))
  · have hkl : k < f.blocks.length := by simp only [decide_eq_true_eq] at hb; omega
    clear hb
    have hzk : 0 + (k : Int).toNat = k := by simp
    have hml : (mapB (blkI ⟨fs⟩ n) f.blocks k).length = f.blocks.length := mapB_len _ _
    have hget : (mapB (blkI ⟨fs⟩ n) f.blocks k).getD (0 + (k : Int).toNat) default = f.blocks.getD k default := by
      rw [hzk, mapB_at hkl, if_neg (Nat.lt_irrefl k)]
    have hcall : ∀ b', b' = f.blocks.getD k default → FC Try.prog 84 [.agg (encMod ⟨fs⟩), iv n, inss b'.ins] (.tup [inss (blockI ⟨fs⟩ n (f.blocks.getD k default).ins).1, iv (blockI ⟨fs⟩ n (f.blocks.getD k default).ins).2]) := fun b' e => by
      subst e
      have h1 := right_ins hr hn (i := k) (by simp only; rw [hf]; exact hkl)
      have h2 := (blk_ok (func_blocks (right_funcs hr hn) (i := k) (by simp only; rw [hf]; exact hkl))).ins
      simp only [hf] at h1 h2
      exact c_block ⟨fs⟩ n _ hn h1 h2
    have hsucc := mostL_succ ⟨fs⟩ n hkl
    have hgen : ∃ p, blockI ⟨fs⟩ n (f.blocks.getD k default).ins = p := ⟨_, rfl⟩
    obtain ⟨p, hp⟩ := hgen
    rw [hp] at hcall hsucc
    ((repeat' ((fail_if_success (show AWp _ _ _ (Code.region 10 _ _) _ _)); first | refine AWp_seq ?_ | (refine AWp_reg tok (by rfl) ?_; conv => whnf) | (refine AWp_any tok mix (by rfl) ?_; conv => whnf) | (refine @And.intro (underG _ _ _ _) _ ?_ ?_; rotate_left; (conv => whnf); rotate_right))); all_goals (try ((guard_target = underG _ _ _ _); refine underG_none ?_; (all_goals (try simp only [underG, true_and, and_true, Bool.cond_true_left, Bool.cond_false_left, Bool.cond_true_right, Bool.cond_false_right, Bool.or_eq_true, Bool.and_eq_true, Bool.or_eq_false_iff, Bool.and_eq_false_iff, cond_true, cond_false, Bool.not_eq_eq_eq_not, Bool.not_true, Bool.not_false, decide_eq_true_eq, decide_eq_false_iff_not, Int.toNat_natCast, Nat.zero_add, Decidable.not_not, maxL, inn_iff] at *)); all_goals omega)))
    refine .inl ⟨_, _, _, uG (QC.fc (hcall ((mapB (blkI ⟨fs⟩ n) f.blocks k).getD (0 + (k : Int).toNat) default) hget) rfl), ?_⟩
    conv => whnf
    (repeat' ((fail_if_success (show AWp _ _ _ (Code.region 11 _ _) _ _)); first | refine AWp_seq ?_ | (refine AWp_any tok mix (by rfl) ?_; conv => whnf)))
    refine .inl ⟨_, _, _, uG (QC.fo (rd := []) (c_CloneIns p.1) (.cons (.imm rfl) .nil) (.inl rfl) rfl), ?_⟩
    conv => whnf
    ((repeat' ((fail_if_success (show AWp _ _ _ (Code.region 11 _ _) _ _)); (refine @And.intro (underG _ _ _ _) _ ?_ ?_; rotate_left; (conv => whnf); rotate_right))); all_goals (try ((guard_target = underG _ _ _ _); refine underG_none ?_; (all_goals (try simp only [underG, true_and, and_true, Bool.cond_true_left, Bool.cond_false_left, Bool.cond_true_right, Bool.cond_false_right, Bool.or_eq_true, Bool.and_eq_true, Bool.or_eq_false_iff, Bool.and_eq_false_iff, cond_true, cond_false, Bool.not_eq_eq_eq_not, Bool.not_true, Bool.not_false, decide_eq_true_eq, decide_eq_false_iff_not, Int.toNat_natCast, Nat.zero_add, Decidable.not_not, maxL, inn_iff] at *)); all_goals omega)))
    refine AWp_max tok 2 rfl (by rfl) rfl rfl rfl rfl rfl ?_; conv => whnf
    refine ⟨_, _, _, rfl, rfl, rfl, ?_⟩
    conv => whnf
    (repeat' (refine AWp_reg tok (by rfl) ?_; conv => whnf))
    refine ⟨k + 1, hkl, by omega, ?_⟩
    refine Weak.fam [] rfl (fun i hi => by cases hi) ?_ ?_ noF (fun i hi => by cases hi)
    · (repeat' first | exact TLg.nil | refine TLg.cons (GV.imm rfl) ?_ | refine TLg.cons (GV.bp rfl rfl) ?_ | refine TLg.cons (GV.int ?_) ?_)
      · rw [hsucc]
      · exact wrap64 (by omega) (by omega)
    · refine .old rfl rfl (GB.one (GVs.imm rfl) (fun _ => rfl)) (.old rfl rfl (GB.one (GVs.imm rfl) (fun _ => rfl)) (.old rfl rfl (GB.one (.cons (.imm rfl) (.cons (.imm rfl) (.cons (.rs rfl rfl rfl rfl) .nil))) (fun e => by cases e)) (.old rfl rfl (GB.row (Nat.le_of_eq (by rw [mapB_len, mapB_len])) (fun q hq => GVs.upd (fun e => ?_) (fun e => ?_)) (fun _ _ _ => rfl)) .nil)))
      · rw [hzk] at e; subst e
        rw [mapB_at hkl, if_pos (Nat.lt_succ_self q), hget]
        refine .cons (.imm rfl) (.cons (.imm rfl) (.cons (.imm rfl) (.cons (.imm rfl) (.cons (.imm rfl) (.cons (.frz (hd_no rfl) rfl (Nat.le_of_eq (Nat.zero_add _)) ?_ (fun x hx => GVs.eqI rfl ?_) (fun _ _ => rfl)) (GVs.imm rfl))))))
        · show _ = (blockI ⟨fs⟩ n (f.blocks.getD q default).ins).1.length
          rw [hp]
        · show encIns (p.1.getD (0 + x) default) = encIns ((blockI ⟨fs⟩ n (f.blocks.getD q default).ins).1.getD x default)
          rw [hp, Nat.zero_add]
      · rw [hzk] at e
        rw [mapB_len] at hq
        refine GVs.eqI rfl ?_
        rw [mapB_at hq, mapB_at hq]
        by_cases h1 : q < k
        · rw [if_pos h1, if_pos (by omega)]
        · rw [if_neg h1, if_neg (by omega)]
  all_goals
    have hkl : k = f.blocks.length := by rename_i hbk; simp only [decide_eq_false_iff_not] at hbk; omega
    subst hkl
    have hreg : (bigF ⟨fs⟩ n).regs = f.regs + mostL ⟨fs⟩ n f.blocks := by simp only [bigF, hf]
    have hml := mostL_le ⟨fs⟩ n f.blocks
    have hfr := hF.2.2.2.1
    have hfr0 : 0 ≤ f.regs := Int.le_trans hF.1 hF.2.2.1
    rw [List.take_length] at hb
    have hw : IntKind.i64.wrap (f.regs + mostL ⟨fs⟩ n f.blocks) = f.regs + mostL ⟨fs⟩ n f.blocks := wrap64 (by omega) (by omega)
    rw [hw] at hb
  · have hN : funN ⟨fs⟩ n = f := by
      unfold funN; rw [if_pos (by rw [hreg]; simpa using hb)]; exact hf
    rw [hN]
    refine .inl ⟨_, _, _, uG (QC.fc (c_CopyF ⟨fs⟩) rfl), ?_⟩
    conv => whnf
    ((repeat' first | (refine AWp_ret ?_; conv => whnf) | (refine @And.intro (underG _ _ _ _) _ ?_ ?_; rotate_left; (conv => whnf); rotate_right)); all_goals (try ((guard_target = underG _ _ _ _); refine underG_none ?_; (all_goals (try simp only [underG, true_and, and_true, Bool.cond_true_left, Bool.cond_false_left, Bool.cond_true_right, Bool.cond_false_right, Bool.or_eq_true, Bool.and_eq_true, Bool.or_eq_false_iff, Bool.and_eq_false_iff, cond_true, cond_false, Bool.not_eq_eq_eq_not, Bool.not_true, Bool.not_false, decide_eq_true_eq, decide_eq_false_iff_not, Int.toNat_natCast, Nat.zero_add, Decidable.not_not, maxL, inn_iff] at *)); all_goals omega)))
    refine ⟨_, rfl, ?_⟩
    rw [← hf]
    exact Rel.agg (Rels.imm rfl)
  · have hN : funN ⟨fs⟩ n = bigF ⟨fs⟩ n := by
      unfold funN; rw [if_neg (by rw [hreg]; simpa using hb)]
    rw [hN]
    refine ⟨_, rfl, Rel.agg (.cons (Rel.int ?_) (.cons (Rel.int ?_) (.cons (Rel.row rfl (mapB_len _ _).symm ?_ (fun z _ => ?_)) .nil)))⟩
    · simp only [bigF, hf]
    · rw [List.take_length, hw, hreg]
    · simp only [bigF, hf, List.length_map]
    · rw [mapB_all]; simp only [bigF, hf]
end Go.Proofs.Ytmanpbgaihdalaa
namespace Go.Proofs.Ytmanpbgaihdalaa
open Go Dv
set_option maxRecDepth 10000
set_option linter.unusedSimpArgs false
def funcI (m : Module) (n : Int) : Func := if rightB m = true ∧ 0 ≤ n ∧ n < m.funcs.length then funN m n.toNat else ⟨0, 0, []⟩
theorem c_iFunc (m : Module) (n : Int) : FC Try.prog 41 [.agg (encMod m), iv n] (.agg (encFunc (funcI m n))) := by
  by_cases h : rightB m = true ∧ 0 ≤ n ∧ n < m.funcs.length
  · have h1 := c_iFuncN m n.toNat h.1 (by omega)
    rw [show funcI m n = funN m n.toNat from if_pos h]
    rw [show ((n.toNat : Nat) : Int) = n from by omega] at h1
    exact h1
  · rw [show funcI m n = ⟨0, 0, []⟩ from if_neg h]
    refine FC_intro tok Try.func41 rfl (by decide +kernel) (Nat.le_of_ble_eq_true rfl) ?_
    refine AWp_facts 0 (fun hl => ?_)
    have hl0 : m.funcs.length ≤ maxL := hl.1.1
    clear hl
    (repeat' first | refine AWp_seq ?_ | (refine AWp_reg tok (by rfl) ?_; conv => whnf))
    refine .inl ⟨_, _, _, uG (QC.fc (c_lRight c_lpad m) rfl), ?_⟩
    conv => whnf
    (repeat' ((fail_if_success (show AWp _ _ _ (Code.region 2 _ _) _ _)); first | refine AWp_seq ?_ | (refine AWp_reg tok (by rfl) ?_; conv => whnf) | (refine AWp_skip ?_; conv => whnf) | refine AWp_cond rfl (fun hb => ?_) (fun hb => ?_)))
    · (repeat' first | (refine AWp_reg tok (by rfl) ?_; conv => whnf) | (refine AWp_ret ?_; conv => whnf))
      refine ⟨_, rfl, Rel.agg (.cons (Rel.imm rfl) (.cons (Rel.imm rfl) (.cons (Rel.nsl' rfl) .nil)))⟩
    · exfalso
      simp at hb
      grind
def moduleI (m : Module) : Module := if rightB m = true then ⟨(List.range m.funcs.length).map (funN m)⟩ else m
/-- Copy, its blocks given away too. -/
theorem c_Copy0 (fs : List Func) : HF Try.prog 26 [.agg (encMod ⟨fs⟩)] (.agg [.rs (900, 0, 0) 3 0 fs.length]) (lookH [((900, 0, 0), .row true 3 fs.length (fun j => encFunc (fs.getD j default)))]) := by
  refine (c_Copy1 fs).weak (fun j => some j) (fun j j' i _ _ h1 h2 => some_inj j j' i h1 h2) (fun j b e => ?_) (.agg (.cons (.rs (b := .row true 3 fs.length (fun j => encFunc (fs.getD j default))) rfl rfl rfl rfl) .nil))
  have hj : j = (900, 0, 0) ∧ b = .row true 3 fs.length (fun j => encFunc (fs.getD j default)) := by
    simp only [lookH] at e
    cases e2 : idEq (900, 0, 0) j with
    | false => rw [e2] at e; cases e
    | true => have := idEq_iff.1 e2; subst this; rw [e2] at e; cases e; exact ⟨rfl, rfl⟩
  obtain ⟨rfl, rfl⟩ := hj
  refine HOk.mk rfl (b0 := funR1 fs (mem1 fs)) rfl (GB.row (Nat.le_refl _) (fun j hj => .cons (.imm rfl) (.cons (.imm rfl) (.cons ?_ .nil))) (fun _ _ _ => rfl))
  exact .frz (k := (fs.getD j default).blocks.length) (f := fun q => encBlock ((fs.getD j default).blocks.getD q default)) (imm := true) (fun j hj e => by cases e; cases hj) (modH1_at hj) (Nat.le_of_eq (Nat.zero_add _)) rfl (fun x hx => GVs.eqI rfl (by rw [Nat.zero_add])) (fun _ _ => rfl)
def curI (m : Module) (n : Nat) : List Func := (List.range m.funcs.length).map fun j => if j < n then funN m j else m.funcs.getD j default
theorem curI_len (m : Module) (n : Nat) : (curI m n).length = m.funcs.length := by simp [curI]
theorem curI_at {m : Module} {n q : Nat} (h : q < m.funcs.length) : (curI m n).getD q default = if q < n then funN m q else m.funcs.getD q default := range_getD _ _ h
theorem curI_zero (m : Module) : curI m 0 = m.funcs := by
  refine list_ext_getD default (by simp [curI]) (fun i hi => ?_)
  rw [curI_len] at hi
  rw [curI_at hi, if_neg (Nat.not_lt_zero i)]
theorem curI_all {m : Module} (h : rightB m = true) : (⟨curI m m.funcs.length⟩ : Module) = moduleI m := by
  unfold moduleI
  rw [if_pos h]
  congr 1
  refine list_ext_getD default (by simp [curI]) (fun i hi => ?_)
  rw [curI_len] at hi
  rw [curI_at hi, if_pos hi, range_getD _ _ hi]
set_option maxHeartbeats 2000000 in
theorem c_iModule (m : Module) : FC Try.prog 40 [.agg (encMod m)] (.tup [.agg (encMod (moduleI m)), iv (errM m)]) := by
  obtain ⟨fs⟩ := m
  refine FC_intro tok Try.func40 rfl (by decide +kernel) (Nat.le_of_ble_eq_true rfl) ?_
  refine AWp_facts 0 (fun hl => ?_)
  have hl0 : fs.length ≤ maxL := hl.1.1
  have hmx : maxL = 4294967296 := rfl
  clear hl
  (repeat' first | refine AWp_seq ?_ | (refine AWp_reg tok (by rfl) ?_; conv => whnf))
  refine .inr ⟨_, _, _, uG (QH.ofF (c_Copy0 fs) rfl (fun i hi => by
    have : i = (900, 0, 0) := by
      simp only [lookH] at hi
      cases e2 : idEq (900, 0, 0) i with
      | false => rw [e2] at hi; cases hi
      | true => exact (idEq_iff.1 e2).symm
    subst this; rfl)), ?_⟩
  conv => whnf
  (repeat' first | refine AWp_seq ?_ | (refine AWp_reg tok (by rfl) ?_; conv => whnf))
  refine .inl ⟨_, _, _, uG (QC.fc (c_lRight c_lpad ⟨fs⟩) rfl), ?_⟩
  conv => whnf
  (repeat' ((fail_if_success (show AWp _ _ _ (Code.region 4 _ _) _ _)); first | refine AWp_seq ?_ | (refine AWp_reg tok (by rfl) ?_; conv => whnf) | (refine AWp_skip ?_; conv => whnf) | (refine AWp_ret ?_; conv => whnf) | refine AWp_cond rfl (fun hb => ?_) (fun hb => ?_)))
  · have hr : rightB ⟨fs⟩ = false := by simpa using hb
    skip
    refine ⟨_, rfl, Rel.tup (.cons (Rel.agg (.cons ?_ .nil)) (.cons (Rel.int (by simp [errM, hr])) .nil))⟩
    rw [show moduleI ⟨fs⟩ = ⟨fs⟩ from by simp [moduleI, hr]]
    exact Rel.row rfl rfl rfl (fun z _ => rfl)
  have hr : rightB ⟨fs⟩ = true := by simpa using hb
  clear hb
  (repeat' ((fail_if_success (show AWp _ _ _ (Code.region 5 _ _) _ _)); first | (refine AWp_reg tok (by rfl) ?_; conv => whnf) | refine AWp_block ?_))
  refine AWp_loop (fun i : Nat => mkF [(1, .bp (1, 0, 0) 0), (2, .bp (2, 0, 0) 0), (4, .bp (4, 0, 0) 0), (14, iv fs.length), (15, iv i)] [((1, 0, 0), boxed (encMod ⟨fs⟩)), ((2, 0, 0), boxed [.nsl]), ((4, 0, 0), .row false 1 1 (fun _ => [.rs (900, 0, 0) 3 0 fs.length])), ((900, 0, 0), .row true 3 fs.length (fun j => encFunc ((curI ⟨fs⟩ i).getD j default)))] noH) (fun i => i ≤ fs.length) (fun i => fs.length - i) 0 (Nat.zero_le _) ?_ ?_
  · refine Weak.fam [] rfl (fun i hi => by cases hi) ?_ ?_ noF (fun i hi => by cases hi)
    · (repeat' first | exact TLg.nil | refine TLg.cons (GV.imm rfl) ?_ | refine TLg.cons (GV.bp rfl rfl) ?_)
      all_goals rfl
    · refine .old rfl rfl (GB.one (GVs.imm rfl) (fun _ => rfl)) (.old rfl rfl (GB.one (GVs.imm rfl) (fun _ => rfl)) (.old rfl rfl (GB.one (.cons (.rs rfl rfl rfl rfl) .nil) (fun e => by cases e)) (.old rfl rfl (GB.rowI (Nat.le_refl _) (fun q hq => ⟨rfl, ?_⟩)) .nil)))
      rw [curI_zero]
  intro i hi
  (repeat' ((fail_if_success (show AWp _ _ _ (Code.region 6 _ _) _ _)); first | refine AWp_seq ?_ | (refine AWp_reg tok (by rfl) ?_; conv => whnf) | refine AWp_block ?_ | (refine AWp_skip ?_; conv => whnf) | (refine AWp_exit ?_; conv => whnf) | (refine AWp_ret ?_; conv => whnf) | refine AWp_cond rfl (fun hb => ?_) (fun hb => ?_)))
  · have hlt : i < fs.length := by simp only [decide_eq_true_eq] at hb; omega
    clear hb
    have hz : 0 + (i : Int).toNat = i := by simp
    (repeat' ((fail_if_success (show AWp _ _ _ (Code.region 8 _ _) _ _)); first | (refine AWp_reg tok (by rfl) ?_; conv => whnf) | (refine AWp_any tok mix (by rfl) ?_; conv => whnf)))
    refine .inl ⟨_, _, _, uG (QC.fc (c_iFuncN ⟨fs⟩ i hr hlt) rfl), ?_⟩
    conv => whnf
    ((repeat' first | (refine AWp_reg tok (by rfl) ?_; conv => whnf) | (refine @And.intro (underG _ _ _ _) _ ?_ ?_; rotate_left; (conv => whnf); rotate_right)); all_goals (try ((guard_target = underG _ _ _ _); refine underG_none ?_; (all_goals (try simp only [underG, true_and, and_true, Bool.cond_true_left, Bool.cond_false_left, Bool.cond_true_right, Bool.cond_false_right, Bool.or_eq_true, Bool.and_eq_true, Bool.or_eq_false_iff, Bool.and_eq_false_iff, cond_true, cond_false, Bool.not_eq_eq_eq_not, Bool.not_true, Bool.not_false, decide_eq_true_eq, decide_eq_false_iff_not, Int.toNat_natCast, Nat.zero_add, Decidable.not_not, maxL, inn_iff] at *)); all_goals omega)))
    refine ⟨i + 1, hlt, by omega, ?_⟩
    refine Weak.fam [] rfl (fun i hi => by cases hi) ?_ ?_ noF (fun i hi => by cases hi)
    · (repeat' first | exact TLg.nil | refine TLg.cons (GV.imm rfl) ?_ | refine TLg.cons (GV.bp rfl rfl) ?_ | refine TLg.cons (GV.int ?_) ?_)
      all_goals first | rfl | exact wrap64 (by omega) (by omega)
    · refine .old rfl rfl (GB.one (GVs.imm rfl) (fun _ => rfl)) (.old rfl rfl (GB.one (GVs.imm rfl) (fun _ => rfl)) (.old rfl rfl (GB.one (.cons (.rs rfl rfl rfl rfl) .nil) (fun e => by cases e)) (.old rfl rfl (GB.row (Nat.le_refl _) (fun q hq => GVs.upd (fun e => ?_) (fun e => ?_)) (fun _ _ _ => rfl)) .nil)))
      · rw [hz] at e; subst e
        refine GVs.eqI rfl ?_
        rw [curI_at hq, if_pos (Nat.lt_succ_self q)]; rfl
      · rw [hz] at e
        refine GVs.eqI rfl ?_
        rw [curI_at hq, curI_at hq]
        by_cases h1 : q < i
        · rw [if_pos h1, if_pos (by omega)]
        · rw [if_neg h1, if_neg (by omega)]
  · have hil : i = fs.length := by simp only [decide_eq_false_iff_not] at hb; omega
    clear hb
    subst hil
    skip
    refine ⟨_, rfl, Rel.tup (.cons (Rel.agg (.cons ?_ .nil)) (.cons (Rel.int (by simp [errM, hr])) .nil))⟩
    rw [← curI_all hr]
    exact Rel.row rfl rfl (curI_len _ _).symm (fun z _ => rfl)
end Go.Proofs.Ytmanpbgaihdalaa
namespace Go.Proofs.Ytmanpbgaihdalaa
open Go Dv
set_option maxRecDepth 10000
set_option linter.unusedSimpArgs false
def setB (m : Module) (n k : Nat) (b : Block) : Module := ⟨m.funcs.set n { (m.funcs.getD n default) with blocks := (m.funcs.getD n default).blocks.set k b }⟩
theorem c_with (m : Module) (n k : Nat) (b : Block) (hn : n < m.funcs.length) (hk : k < (m.funcs.getD n default).blocks.length) : FC Try.prog 120 [.agg (encMod m), iv n, iv k, .agg (encBlock b)] (.agg (encMod (setB m n k b))) := by
  refine FC_intro tok Try.func120 rfl (by decide +kernel) (Nat.le_of_ble_eq_true rfl) ?_
  refine AWp_facts 0 (fun hl => ?_)
  have hl0 : m.funcs.length ≤ maxL := hl.1.1
  have hl1 : (m.funcs.getD n default).blocks.length ≤ maxL := (hl.1.2 n hn).2.2.1.1
  have hmx : maxL = 4294967296 := rfl
  clear hl
  have hz : 0 + (n : Int).toNat = n := by simp
  have hzk : 0 + (k : Int).toNat = k := by simp
  ((repeat' ((fail_if_success (show AWp _ _ _ (Code.region 5 _ _) _ _)); first | refine AWp_seq ?_ | (refine AWp_reg tok (by rfl) ?_; conv => whnf) | (refine @And.intro (underG _ _ _ _) _ ?_ ?_; rotate_left; (conv => whnf); rotate_right))); all_goals (try ((guard_target = underG _ _ _ _); refine underG_none ?_; (first | refine And.intro srcObl_sl ?_ | skip); (all_goals (try simp only [underG, true_and, and_true, Bool.cond_true_left, Bool.cond_false_left, Bool.cond_true_right, Bool.cond_false_right, Bool.or_eq_true, Bool.and_eq_true, Bool.or_eq_false_iff, Bool.and_eq_false_iff, cond_true, cond_false, Bool.not_eq_eq_eq_not, Bool.not_true, Bool.not_false, decide_eq_true_eq, decide_eq_false_iff_not, Int.toNat_natCast, Nat.zero_add, Decidable.not_not, maxL, inn_iff] at *)); all_goals omega)))
  · refine underG_none (And.intro srcObl_sl ?_)
    show 0 ≤ 0 ∧ 0 + (m.funcs.getD (0 + (n : Int).toNat - 0) default).blocks.length ≤ maxL
    rw [Nat.sub_zero, hz, Nat.zero_add]; exact ⟨Nat.le_refl _, hl1⟩
  · refine underG_none ?_
    show (0 : Int) ≤ k ∧ (k : Int) < ((0 + (m.funcs.getD (0 + (n : Int).toNat - 0) default).blocks.length : Nat) : Int)
    rw [Nat.sub_zero, hz, Nat.zero_add]; omega
  refine AWp_weak (Weak.fam (tl := [(4, .bp (4, 0, 0) 0), (8, .bp (8, 0, 0) 0), (9, funcss (setB m n k b).funcs)]) (hl := [((4, 0, 0), .row true 1 1 (fun _ => encMod m)), ((8, 0, 0), boxed [.nsl])]) (F := noH) [] rfl (fun i hi => by cases hi)
    (.cons (.bp rfl rfl) (.cons (.bp rfl rfl) (.cons ?_ .nil))) (.old rfl rfl (GB.one (GVs.imm rfl) (fun _ => rfl)) (.old rfl rfl (GB.one (GVs.imm rfl) (fun _ => rfl)) .nil)) noF (fun i hi => by cases hi)) ?_
  · refine GV.frz (hd_no rfl) rfl (Nat.le_of_eq (Nat.zero_add _)) (by simp [setB]) (fun x hx => GVs.upd (fun e => ?_) (fun e => GVs.eqI rfl ?_)) (fun x hx => rfl)
    · rw [Nat.zero_add, hz] at e; subst e
      have h1 : (setB m x k b).funcs.getD x default = { (m.funcs.getD x default) with blocks := (m.funcs.getD x default).blocks.set k b } := by simp only [setB]; rw [getD_set, if_pos ⟨rfl, hn⟩]
      rw [h1]
      refine .cons (GV.int (by simp)) (.cons (GV.int (by simp)) (.cons (GV.frz (hd_no rfl) rfl (Nat.le_of_eq (Nat.zero_add _)) (by simp) (fun y hy => GVs.upd (fun e => ?_) (fun e => GVs.eqI rfl ?_)) (fun _ _ => rfl)) .nil))
      · rw [Nat.zero_add, hzk] at e; subst e
        rw [getD_set, if_pos ⟨rfl, hk⟩]
        exact GVs.imm rfl
      · rw [getD_set, if_neg (fun h => e (by rw [Nat.zero_add, hzk]; exact h.1.symm))]
        show encBlock ((m.funcs.getD _ default).blocks.getD _ default) = _
        simp
    · have h1 : (setB m n k b).funcs.getD x default = m.funcs.getD x default := by
        simp only [setB]; rw [getD_set, if_neg (fun h => e (by rw [Nat.zero_add, hz]; exact h.1.symm))]
      rw [h1]
      show encFunc (m.funcs.getD _ default) = _
      simp
  (repeat' first | refine AWp_seq ?_ | (refine AWp_reg tok (by rfl) ?_; conv => whnf) | (refine AWp_ret ?_; conv => whnf))
  exact ⟨_, rfl, Rel.agg (Rels.imm rfl)⟩
theorem c_With (m : Module) (n k : Nat) (b : Block) (hn : n < m.funcs.length) (hk : k < (m.funcs.getD n default).blocks.length) : FC Try.prog 81 [.agg (encMod m), iv n, iv k, .agg (encBlock b)] (.agg (encMod (setB m n k b))) := by
  refine FC_intro tok Try.func81 rfl (by decide +kernel) (Nat.le_of_ble_eq_true rfl) ?_
  (repeat' first | refine AWp_seq ?_ | (refine AWp_reg tok (by rfl) ?_; conv => whnf))
  refine .inl ⟨_, _, _, uG (QC.fc (c_with m n k b hn hk) rfl), ?_⟩
  conv => whnf
  (repeat' (refine AWp_ret ?_; conv => whnf))
  exact ⟨_, rfl, Rel.agg (Rels.imm rfl)⟩
end Go.Proofs.Ytmanpbgaihdalaa
namespace Go.Proofs.Ytmanpbgaihdalaa
open Go Dv
set_option maxRecDepth 10000
set_option linter.unusedSimpArgs false
def modK (m : Module) (n k : Nat) : Module := ⟨m.funcs.set n { (m.funcs.getD n default) with blocks := mapB (blkI m n) (m.funcs.getD n default).blocks k }⟩
theorem modK_zero (m : Module) (n : Nat) : modK m n 0 = m := by
  obtain ⟨fs⟩ := m
  unfold modK
  rw [mapB_nil]
  congr 1
  refine list_ext_getD default (by simp) (fun i hi => ?_)
  rw [getD_set]
  split
  · rename_i h; rw [h.1]
  · rfl
theorem wks_snoc {l : List Ins} {v : Ins} {c : List AV} {f : Nat → List AV} {n z : Nat} (hn : n = l.length) (hf : ∀ i, i < l.length → f i = encIns (l.getD i default)) (hc : c.length = 7) (hg : Wks c (encIns v)) (hz : z < n + 1) : Wks (appR n f (fun i => rowOf 7 c (0 + i)) z) (encIns ((l ++ [v]).getD z default)) := by
  subst hn
  by_cases e : z < l.length
  · have h1 : appR l.length f (fun i => rowOf 7 c (0 + i)) z = f z := by
      unfold appR; rw [show Nat.blt z l.length = true from by rw [Nat.blt_eq]; exact e]; rfl
    rw [h1, hf z e, show (l ++ [v]).getD z default = l.getD z default from by simp [List.getD_eq_getElem?_getD, List.getElem?_append_left e]]
    exact Wks.of rfl
  · have e2 : z = l.length := by omega
    subst e2
    have h1 : appR l.length f (fun i => rowOf 7 c (0 + i)) l.length = c := by
      unfold appR; rw [show Nat.blt l.length l.length = false from by rw [Bool.eq_false_iff]; intro h; rw [Nat.blt_eq] at h; omega, Nat.sub_self, ← hc]
      exact rowOf_one _
    rw [h1, show (l ++ [v]).getD l.length default = v from by simp [List.getD_eq_getElem?_getD]]
    exact hg
theorem app_fn {sz n x : Nat} {f g : Nat → List AV} {c : List AV} (hf : ∀ i, i < n → f i = g i) (hc : c = g n) (hl : c.length = sz) (hx : x < n + 1) : appR n f (fun i => rowOf sz c (0 + i)) x = g x := by
  by_cases e : x < n
  · have h1 : appR n f (fun i => rowOf sz c (0 + i)) x = f x := by
      unfold appR; rw [show Nat.blt x n = true from by rw [Nat.blt_eq]; exact e]; rfl
    rw [h1, hf x e]
  · have e2 : x = n := by omega
    subst e2
    subst hl
    have h1 : appR x f (fun i => rowOf c.length c (0 + i)) x = c := by
      unfold appR; rw [show Nat.blt x x = false from by rw [Bool.eq_false_iff]; intro h; rw [Nat.blt_eq] at h; omega, Nat.sub_self]
      exact rowOf_one _
    rw [h1, hc]
theorem args_len {m : Module} {f : Func} {n : Int} {l : List Int} (h : argsB m f n l = true) : (l.length : Int) = (m.funcs.getD n.toNat default).params := by
  unfold argsB at h
  cases h1 : inn n m.funcs.length with
  | false => rw [h1] at h; cases h
  | true =>
    rw [h1, cond_true] at h
    cases h2 : decide ((l.length : Int) = (m.funcs.getD n.toNat default).params) with
    | false => rw [h2] at h; cases h
    | true => simpa using h2
theorem right_insP {m : Module} (h : rightB m = true) {n i j : Nat} (hn : n < m.funcs.length) (hi : i < (m.funcs.getD n default).blocks.length) (hj : j < ((m.funcs.getD n default).blocks.getD i default).ins.length) : InsP m (m.funcs.getD n default) (((m.funcs.getD n default).blocks.getD i default).ins.getD j default) := by
  have := func_blocks (right_funcs h hn) hi
  unfold blkB at this
  rw [Bool.and_eq_true] at this
  have := all_at default this.2 hj
  simpa using this
theorem insP_args {m : Module} {f : Func} {x : Ins} (h : InsP m f x) (ho : x.op = 11) : argsB m f x.f x.args = true := by
  rcases h with h | h | h | h | h | h | h
  · omega
  · omega
  · omega
  · omega
  · exact h.2.2.2.2.2
  · omega
  · omega
theorem insP_op {m : Module} {f : Func} {x : Ins} (h : InsP m f x) : 1 ≤ x.op ∧ x.op ≤ 13 := by
  rcases h with h | h | h | h | h | h | h <;> omega
theorem modK_len (m : Module) (n k : Nat) : (modK m n k).funcs.length = m.funcs.length := by simp [modK]
theorem modK_n {m : Module} {n k : Nat} (hn : n < m.funcs.length) : (modK m n k).funcs.getD n default = { (m.funcs.getD n default) with blocks := mapB (blkI m n) (m.funcs.getD n default).blocks k } := by
  simp only [modK]; rw [getD_set, if_pos ⟨rfl, hn⟩]
theorem modK_succ {m : Module} {n k : Nat} (hn : n < m.funcs.length) (hk : k < (m.funcs.getD n default).blocks.length) : setB (modK m n k) n k (blkI m n ((m.funcs.getD n default).blocks.getD k default)) = modK m n (k + 1) := by
  unfold setB
  rw [modK_n hn]
  simp only [modK, List.set_set]
  congr 2
  congr 1
  refine list_ext_getD default (by simp [mapB]) (fun q hq => ?_)
  simp only [List.length_set, mapB_len] at hq
  rw [getD_set, mapB_len, mapB_at hq, mapB_at hq]
  by_cases h3 : k = q
  · subst h3; rw [if_pos ⟨rfl, hk⟩, if_pos (by omega)]
  · rw [if_neg (fun e => h3 e.1)]
    by_cases h4 : q < k
    · rw [if_pos h4, if_pos (by omega)]
    · rw [if_neg h4, if_neg (by omega)]
theorem modK_same {m : Module} {n k : Nat} (hk : k < (m.funcs.getD n default).blocks.length) (h : blkI m n ((m.funcs.getD n default).blocks.getD k default) = (m.funcs.getD n default).blocks.getD k default) : modK m n (k + 1) = modK m n k := by
  simp only [modK]
  congr 2
  congr 1
  refine list_ext_getD default (by simp [mapB]) (fun q hq => ?_)
  rw [mapB_len] at hq
  rw [mapB_at hq, mapB_at hq]
  by_cases h3 : q = k
  · subst h3; rw [if_pos (by omega), if_neg (by omega), h]
  · by_cases h4 : q < k
    · rw [if_pos h4, if_pos (by omega)]
    · rw [if_neg h4, if_neg (by omega)]
set_option maxHeartbeats 4000000 in
theorem c_r23Func (m : Module) (n : Nat) (hr : rightB m = true) (hn : n < m.funcs.length) : FC Try.prog 45 [.agg (encMod m), iv n] (.agg (encFunc (funN m n))) := by
  have hgen : ∃ f, m.funcs.getD n default = f := ⟨_, rfl⟩
  obtain ⟨f, hf⟩ := hgen
  have hF : FunP f := hf ▸ right_fun hr hn
  have hfb : f.blocks.length ≤ 64 := hF.2.2.2.2.2.1
  refine FC_intro tok Try.func45 rfl (by decide +kernel) (Nat.le_of_ble_eq_true rfl) ?_
  refine AWp_facts 0 (fun hl => ?_)
  have hl0 : m.funcs.length ≤ maxL := hl.1.1
  have hmx : maxL = 4294967296 := rfl
  clear hl
  ((repeat' first | refine AWp_seq ?_ | (refine AWp_reg tok (by rfl) ?_; conv => whnf) | refine AWp_block ?_ | (refine @And.intro (underG _ _ _ _) _ ?_ ?_; rotate_left; (conv => whnf); rotate_right)); all_goals (try ((guard_target = underG _ _ _ _); refine underG_none ?_; (all_goals (try simp only [underG, true_and, and_true, Bool.cond_true_left, Bool.cond_false_left, Bool.cond_true_right, Bool.cond_false_right, Bool.or_eq_true, Bool.and_eq_true, Bool.or_eq_false_iff, Bool.and_eq_false_iff, cond_true, cond_false, Bool.not_eq_eq_eq_not, Bool.not_true, Bool.not_false, decide_eq_true_eq, decide_eq_false_iff_not, Int.toNat_natCast, Nat.zero_add, Decidable.not_not, maxL, inn_iff] at *)); all_goals omega)))
  refine AWp_loop (fun k : Nat => mkS [(1, iv n), (2, .bp (2, 0, 0) 0), (4, .bp (4, 0, 0) 0), (5, .bp (5, 0, 0) 0), (6, iv f.regs), (7, iv (mostL m n (f.blocks.take k))), (8, .bp (8, 0, 0) 0), (9, iv k)] [((2, 0, 0), boxed (encMod m)), ((4, 0, 0), boxed [iv 0, iv 0, .nsl]), ((5, 0, 0), .row true 3 1 (fun _ => encFunc f)), ((8, 0, 0), .row true 1 1 (fun _ => encMod (modK m n k)))])
    (fun k => k ≤ f.blocks.length) (fun k => f.blocks.length - k) 0 (Nat.zero_le _) ?_ ?_
  · refine Weak.list [((2, 0, 0), .old (2, 0, 0), boxed (encMod m)), ((4, 0, 0), .old (4, 0, 0), boxed [iv 0, iv 0, .nsl]), ((5, 0, 0), .old (5, 0, 0), .row true 3 1 (fun _ => encFunc f)), ((8, 0, 0), .old (8, 0, 0), .row true 1 1 (fun _ => encMod (modK m n 0)))] rfl (by rfl) ?_ (.old rfl (BLe.refl _) (.old rfl (BLe.refl _) (.old rfl (BLe.rowW (Nat.le_refl _) (ltS (Wks.of (by rw [← hf]; rfl)) lt0)) (.old rfl (BLe.rowW (Nat.le_refl _) (ltS (Wks.of (by rw [modK_zero]; rfl)) lt0)) .nil))))
    · rw [← hf]
      ((repeat' first | exact TLes.nil | refine TLes.cons (TLe.eq rfl) ?_); skip)
  intro k hk
  (repeat' ((fail_if_success (show AWp _ _ _ (Code.region 8 _ _) _ _)); first | refine AWp_seq ?_ | (refine AWp_reg tok (by rfl) ?_; conv => whnf) | refine AWp_block ?_ | (refine AWp_skip ?_; conv => whnf) | (refine AWp_exit ?_; conv => whnf) | (refine AWp_ret ?_; conv => whnf) | refine AWp_cond rfl (fun hb => ?_) (fun hb => ?_) | (refine @And.intro (underG _ _ _ _) _ ?_ ?_; rotate_left; (conv => whnf); rotate_right)))
  · have hkl : k < f.blocks.length := by simp only [decide_eq_true_eq] at hb; omega
    clear hb
    have h64 := right_ins hr hn (i := k) (by rw [hf]; exact hkl)
    have hcl := (blk_ok (func_blocks (right_funcs hr hn) (i := k) (by rw [hf]; exact hkl))).ins
    have hpc : ∀ j, j < ((m.funcs.getD n default).blocks.getD k default).ins.length → InsP m (m.funcs.getD n default) (((m.funcs.getD n default).blocks.getD k default).ins.getD j default) := fun j hj => right_insP hr hn (by rw [hf]; exact hkl) hj
    rw [hf] at h64 hcl hpc
    have hmost := mostL_succ m n hkl
    have hgen : ∃ b, f.blocks.getD k default = b := ⟨_, rfl⟩
    obtain ⟨b, hbk⟩ := hgen
    rw [hbk] at h64 hcl hmost hpc
    have hgen : ∃ A, mostL m n (f.blocks.take k) = A := ⟨_, rfl⟩
    obtain ⟨A, hA⟩ := hgen
    rw [hA] at hmost
    ((repeat' ((fail_if_success (show AWp _ _ _ (Code.region 9 _ _) _ _)); first | refine AWp_seq ?_ | (refine AWp_reg tok (by rfl) ?_; conv => whnf) | (refine @And.intro (underG _ _ _ _) _ ?_ ?_; rotate_left; (conv => whnf); rotate_right))); all_goals (try ((guard_target = underG _ _ _ _); refine underG_none ?_; (all_goals (try simp only [underG, true_and, and_true, Bool.cond_true_left, Bool.cond_false_left, Bool.cond_true_right, Bool.cond_false_right, Bool.or_eq_true, Bool.and_eq_true, Bool.or_eq_false_iff, Bool.and_eq_false_iff, cond_true, cond_false, Bool.not_eq_eq_eq_not, Bool.not_true, Bool.not_false, decide_eq_true_eq, decide_eq_false_iff_not, Int.toNat_natCast, Nat.zero_add, Decidable.not_not, maxL, inn_iff] at *)); all_goals omega)))
    refine AWp_weak (Weak.list (tl := [(1, iv n), (2, .bp (2, 0, 0) 0), (4, .bp (4, 0, 0) 0), (5, .bp (5, 0, 0) 0), (6, iv f.regs), (7, iv A), (8, .bp (8, 0, 0) 0), (9, iv k), (10, .bp (10, 0, 0) 0)]) [((2, 0, 0), .old (2, 0, 0), boxed (encMod m)), ((4, 0, 0), .old (4, 0, 0), boxed [iv 0, iv 0, .nsl]), ((5, 0, 0), .old (5, 0, 0), .row true 3 1 (fun _ => encFunc f)), ((8, 0, 0), .old (8, 0, 0), .row true 1 1 (fun _ => encMod (modK m n k))), ((10, 0, 0), .old (10, 0, 0), .row true 14 1 (fun _ => encBlock b))] rfl (by rfl) ?_ (.old rfl (BLe.refl _) (.old rfl (BLe.refl _) (.old rfl (BLe.refl _) (.old rfl (BLe.refl _) (.old rfl (BLe.rowW (Nat.le_refl _) (ltS (Wks.of (by rw [← hbk, Int.toNat_natCast]; rfl)) lt0)) .nil)))))) ?_
    · rw [← hA]
      ((repeat' first | exact TLes.nil | refine TLes.cons (TLe.eq rfl) ?_); skip)
    (repeat' first | refine AWp_seq ?_ | (refine AWp_reg tok (by rfl) ?_; conv => whnf) | refine AWp_block ?_)
    refine AWp_loop (fun j : Nat => mkS [(1, iv n), (2, .bp (2, 0, 0) 0), (4, .bp (4, 0, 0) 0), (5, .bp (5, 0, 0) 0), (6, iv f.regs), (7, iv A), (8, .bp (8, 0, 0) 0), (9, iv k), (10, .bp (10, 0, 0) 0), (11, .rs (11, 1, 0) 7 0 (outX m n (b.ins.take j)).length), (12, iv (moreX m n (b.ins.take j))), (13, iv j)] [((2, 0, 0), boxed (encMod m)), ((4, 0, 0), boxed [iv 0, iv 0, .nsl]), ((5, 0, 0), .row true 3 1 (fun _ => encFunc f)), ((8, 0, 0), .row true 1 1 (fun _ => encMod (modK m n k))), ((10, 0, 0), .row true 14 1 (fun _ => encBlock b)), ((11, 1, 0), .row true 7 (outX m n (b.ins.take j)).length (fun y => encIns ((outX m n (b.ins.take j)).getD y default)))])
      (fun j => j ≤ b.ins.length) (fun j => b.ins.length - j) 0 (Nat.zero_le _) ?_ ?_
    · refine Weak.list [((2, 0, 0), .old (2, 0, 0), boxed (encMod m)), ((4, 0, 0), .old (4, 0, 0), boxed [iv 0, iv 0, .nsl]), ((5, 0, 0), .old (5, 0, 0), .row true 3 1 (fun _ => encFunc f)), ((8, 0, 0), .old (8, 0, 0), .row true 1 1 (fun _ => encMod (modK m n k))), ((10, 0, 0), .old (10, 0, 0), .row true 14 1 (fun _ => encBlock b)), ((11, 1, 0), .nil, .row true 7 0 (fun y => encIns ((outX m n (b.ins.take 0)).getD y default)))] rfl (by rfl) ?_ (.old rfl (BLe.refl _) (.old rfl (BLe.refl _) (.old rfl (BLe.refl _) (.old rfl (BLe.refl _) (.old rfl (BLe.refl _) (.new .nil))))))
      ((repeat' first | exact TLes.nil | refine TLes.cons (TLe.eq rfl) ?_ | refine TLes.cons (TLe.nilL rfl ?_) ?_); (all_goals first | rfl | skip))
    intro j hj
    have hol := outX_len m n (b.ins.take j)
    have htl : (b.ins.take j).length = j := by simp; omega
    rw [htl] at hol
    (repeat' ((fail_if_success (show AWp _ _ _ (Code.region 14 _ _) _ _)); first | refine AWp_seq ?_ | (refine AWp_reg tok (by rfl) ?_; conv => whnf) | refine AWp_block ?_ | (refine AWp_skip ?_; conv => whnf) | (refine AWp_exit ?_; conv => whnf) | refine AWp_cond rfl (fun hb => ?_) (fun hb => ?_)))
    · have hlt : j < b.ins.length := by simp only [decide_eq_true_eq] at hb; omega
      clear hb
      have hs1 := outX_succ m n hlt
      have hs2 := moreX_succ m n hlt
      have hx := hcl j hlt
      have hxp := hpc j hlt
      have hgen : ∃ x, b.ins.getD j default = x := ⟨_, rfl⟩
      obtain ⟨x, hxj⟩ := hgen
      rw [hxj] at hs1 hs2 hx hxp
      have hgen : ∃ L, outX m n (b.ins.take j) = L := ⟨_, rfl⟩
      obtain ⟨L, hL⟩ := hgen
      have hgen : ∃ a, moreX m n (b.ins.take j) = a := ⟨_, rfl⟩
      obtain ⟨a, ha⟩ := hgen
      rw [hL] at hs1 hol
      rw [ha] at hs2
      ((repeat' ((fail_if_success (show AWp _ _ _ (Code.region 15 _ _) _ _)); first | refine AWp_seq ?_ | (refine AWp_reg tok (by rfl) ?_; conv => whnf) | (refine @And.intro (underG _ _ _ _) _ ?_ ?_; rotate_left; (conv => whnf); rotate_right))); all_goals (try ((guard_target = underG _ _ _ _); refine underG_none ?_; (all_goals (try simp only [underG, true_and, and_true, Bool.cond_true_left, Bool.cond_false_left, Bool.cond_true_right, Bool.cond_false_right, Bool.or_eq_true, Bool.and_eq_true, Bool.or_eq_false_iff, Bool.and_eq_false_iff, cond_true, cond_false, Bool.not_eq_eq_eq_not, Bool.not_true, Bool.not_false, decide_eq_true_eq, decide_eq_false_iff_not, Int.toNat_natCast, Nat.zero_add, Decidable.not_not, maxL, inn_iff] at *)); all_goals omega)))
      refine AWp_weak (Weak.list (tl := [(1, iv n), (2, .bp (2, 0, 0) 0), (4, .bp (4, 0, 0) 0), (5, .bp (5, 0, 0) 0), (6, iv f.regs), (7, iv A), (8, .bp (8, 0, 0) 0), (9, iv k), (10, .bp (10, 0, 0) 0), (11, .rs (11, 1, 0) 7 0 L.length), (12, iv a), (13, iv j), (14, .bp (14, 0, 0) 0)]) [((2, 0, 0), .old (2, 0, 0), boxed (encMod m)), ((4, 0, 0), .old (4, 0, 0), boxed [iv 0, iv 0, .nsl]), ((5, 0, 0), .old (5, 0, 0), .row true 3 1 (fun _ => encFunc f)), ((8, 0, 0), .old (8, 0, 0), .row true 1 1 (fun _ => encMod (modK m n k))), ((10, 0, 0), .old (10, 0, 0), .row true 14 1 (fun _ => encBlock b)), ((14, 0, 0), .old (14, 0, 0), .row true 7 1 (fun _ => encIns x)), ((11, 1, 0), .old (11, 1, 0), .row true 7 L.length (fun y => encIns (L.getD y default)))] rfl (by rfl) ?_ (.old rfl (BLe.refl _) (.old rfl (BLe.refl _) (.old rfl (BLe.refl _) (.old rfl (BLe.refl _) (.old rfl (BLe.refl _) (.old rfl (BLe.rowW (Nat.le_refl _) (ltS (Wks.of (by rw [← hxj, Int.toNat_natCast]; rfl)) lt0)) (.old rfl (BLe.rowW (Nat.le_of_eq (by rw [hL])) (fun z hz => Wks.of (by rw [← hL]; rfl))) .nil)))))))) ?_
      · rw [← hL, ← ha]
        ((repeat' first | exact TLes.nil | refine TLes.cons (TLe.eq rfl) ?_); skip)
      ((repeat' ((fail_if_success (show AWp _ _ _ (Code.region 16 _ _) _ _)); first | (refine AWp_reg tok (by rfl) ?_; conv => whnf) | (refine @And.intro (underG _ _ _ _) _ ?_ ?_; rotate_left; (conv => whnf); rotate_right))); all_goals (try ((guard_target = underG _ _ _ _); ((refine underG_some ?_; intro hgd; (conv at hgd => whnf))); (all_goals (try simp only [underG, true_and, and_true, Bool.cond_true_left, Bool.cond_false_left, Bool.cond_true_right, Bool.cond_false_right, Bool.or_eq_true, Bool.and_eq_true, Bool.or_eq_false_iff, Bool.and_eq_false_iff, cond_true, cond_false, Bool.not_eq_eq_eq_not, Bool.not_true, Bool.not_false, decide_eq_true_eq, decide_eq_false_iff_not, Int.toNat_natCast, Nat.zero_add, Decidable.not_not, maxL, inn_iff] at *)); all_goals omega)))
      refine .inl ⟨_, _, _, uG (QC.fc (c_r23Small (m.funcs.getD x.f.toNat default)) rfl), ?_⟩
      conv => whnf
      ((repeat' ((fail_if_success (show AWp _ _ _ (Code.region 16 _ _) _ _)); first | refine AWp_seq ?_ | (refine AWp_reg tok (by rfl) ?_; conv => whnf) | refine AWp_cond rfl (fun hb => ?_) (fun hb => ?_) | (refine @And.intro (underG _ _ _ _) _ ?_ ?_; rotate_left; (conv => whnf); rotate_right))); all_goals (try ((guard_target = underG _ _ _ _); refine underG_none ?_; (first | refine And.intro (srcObl_rs rfl ?_) ?_ | skip); (all_goals (try simp only [underG, true_and, and_true, Bool.cond_true_left, Bool.cond_false_left, Bool.cond_true_right, Bool.cond_false_right, Bool.or_eq_true, Bool.and_eq_true, Bool.or_eq_false_iff, Bool.and_eq_false_iff, cond_true, cond_false, Bool.not_eq_eq_eq_not, Bool.not_true, Bool.not_false, decide_eq_true_eq, decide_eq_false_iff_not, Int.toNat_natCast, Nat.zero_add, Decidable.not_not, maxL, inn_iff] at *)); all_goals omega)))
      · have hin : inlX m n x = true := by
          unfold inlX
          rw [Bool.and_eq_true, decide_eq_true_eq]
          simp [cond_eq_ite] at hb
          grind
        have hop : x.op = 11 := by
          unfold inlX at hin; rw [Bool.and_eq_true, decide_eq_true_eq] at hin; exact hin.1.1
        obtain ⟨hx1, hx2⟩ := hx hop
        clear hb
        have hgen : ∃ g, m.funcs.getD x.f.toNat default = g := ⟨_, rfl⟩
        obtain ⟨g, hg⟩ := hgen
        have hsm : smallF g = true := by
          unfold inlX at hin; rw [Bool.and_eq_true, hg] at hin; exact hin.2
        have hbx : blkX m n x = openL x g f.regs := by unfold blkX; rw [hin, hg, hf]; rfl
        have hmr : mrX m n a x = max a g.regs := by unfold mrX; rw [hin, hg]; rfl
        rw [hbx] at hs1
        rw [hmr] at hs2
        have hal := args_len (insP_args hxp hop)
        have hG : FunP g := hg ▸ right_fun hr (n := x.f.toNat) (by omega)
        rw [hg] at hal
        have hg16 := (smallF_of hsm).2.1
        have hxa : x.args.length = g.params.toNat := by omega
        have hG1 := hG.1
        have hG2 := hG.2.2.1
        ((repeat' ((fail_if_success (show AWp _ _ _ (Code.region 17 _ _) _ _)); first | refine AWp_seq ?_ | (refine AWp_reg tok (by rfl) ?_; conv => whnf) | (refine @And.intro (underG _ _ _ _) _ ?_ ?_; rotate_left; (conv => whnf); rotate_right))); all_goals (try ((guard_target = underG _ _ _ _); refine underG_none ?_; (all_goals (try simp only [underG, true_and, and_true, Bool.cond_true_left, Bool.cond_false_left, Bool.cond_true_right, Bool.cond_false_right, Bool.or_eq_true, Bool.and_eq_true, Bool.or_eq_false_iff, Bool.and_eq_false_iff, cond_true, cond_false, Bool.not_eq_eq_eq_not, Bool.not_true, Bool.not_false, decide_eq_true_eq, decide_eq_false_iff_not, Int.toNat_natCast, Nat.zero_add, Decidable.not_not, maxL, inn_iff] at *)); all_goals omega)))
        refine AWp_weak (Weak.list (tl := [(1, iv n), (2, .bp (2, 0, 0) 0), (4, .bp (4, 0, 0) 0), (5, .bp (5, 0, 0) 0), (6, iv f.regs), (7, iv A), (8, .bp (8, 0, 0) 0), (9, iv k), (10, .bp (10, 0, 0) 0), (11, .rs (11, 1, 0) 7 0 L.length), (12, iv a), (13, iv j), (14, .bp (14, 0, 0) 0), (15, .bp (15, 0, 0) 0)]) [((2, 0, 0), .old (2, 0, 0), boxed (encMod m)), ((4, 0, 0), .old (4, 0, 0), boxed [iv 0, iv 0, .nsl]), ((5, 0, 0), .old (5, 0, 0), .row true 3 1 (fun _ => encFunc f)), ((8, 0, 0), .old (8, 0, 0), .row true 1 1 (fun _ => encMod (modK m n k))), ((10, 0, 0), .old (10, 0, 0), .row true 14 1 (fun _ => encBlock b)), ((14, 0, 0), .old (14, 0, 0), .row true 7 1 (fun _ => encIns x)), ((15, 0, 0), .old (15, 0, 0), .row true 3 1 (fun _ => encFunc g)), ((11, 1, 0), .old (11, 1, 0), .row true 7 L.length (fun y => encIns (L.getD y default)))] rfl (by rfl) ?_ (.old rfl (BLe.refl _) (.old rfl (BLe.refl _) (.old rfl (BLe.refl _) (.old rfl (BLe.refl _) (.old rfl (BLe.refl _) (.old rfl (BLe.refl _) (.old rfl (BLe.rowW (Nat.le_refl _) (ltS (Wks.of (by rw [← hg]; rfl)) lt0)) (.old rfl (BLe.refl _) .nil))))))))) ?_
        · ((repeat' first | exact TLes.nil | refine TLes.cons (TLe.eq rfl) ?_); skip)
        (repeat' ((fail_if_success (show AWp _ _ _ (Code.region 18 _ _) _ _)); first | (refine AWp_reg tok (by rfl) ?_; conv => whnf) | refine AWp_block ?_))
        refine AWp_loop (fun i : Nat => mkS [(1, iv n), (2, .bp (2, 0, 0) 0), (4, .bp (4, 0, 0) 0), (5, .bp (5, 0, 0) 0), (6, iv f.regs), (7, iv A), (8, .bp (8, 0, 0) 0), (9, iv k), (10, .bp (10, 0, 0) 0), (11, .rs (11, 1, 0) 7 0 (L.length + i)), (12, iv a), (13, iv j), (14, .bp (14, 0, 0) 0), (15, .bp (15, 0, 0) 0), (16, iv i)] [((2, 0, 0), boxed (encMod m)), ((4, 0, 0), boxed [iv 0, iv 0, .nsl]), ((5, 0, 0), .row true 3 1 (fun _ => encFunc f)), ((8, 0, 0), .row true 1 1 (fun _ => encMod (modK m n k))), ((10, 0, 0), .row true 14 1 (fun _ => encBlock b)), ((14, 0, 0), .row true 7 1 (fun _ => encIns x)), ((15, 0, 0), .row true 3 1 (fun _ => encFunc g)), ((11, 1, 0), .row true 7 (L.length + i) (fun y => encIns ((L ++ opP x f.regs i).getD y default)))])
          (fun i => i ≤ g.params.toNat) (fun i => g.params.toNat - i) 0 (Nat.zero_le _) ?_ ?_
        · refine Weak.list [((2, 0, 0), .old (2, 0, 0), boxed (encMod m)), ((4, 0, 0), .old (4, 0, 0), boxed [iv 0, iv 0, .nsl]), ((5, 0, 0), .old (5, 0, 0), .row true 3 1 (fun _ => encFunc f)), ((8, 0, 0), .old (8, 0, 0), .row true 1 1 (fun _ => encMod (modK m n k))), ((10, 0, 0), .old (10, 0, 0), .row true 14 1 (fun _ => encBlock b)), ((14, 0, 0), .old (14, 0, 0), .row true 7 1 (fun _ => encIns x)), ((15, 0, 0), .old (15, 0, 0), .row true 3 1 (fun _ => encFunc g)), ((11, 1, 0), .old (11, 1, 0), .row true 7 (L.length + 0) (fun y => encIns ((L ++ opP x f.regs 0).getD y default)))] rfl (by rfl) ?_ (.old rfl (BLe.refl _) (.old rfl (BLe.refl _) (.old rfl (BLe.refl _) (.old rfl (BLe.refl _) (.old rfl (BLe.refl _) (.old rfl (BLe.refl _) (.old rfl (BLe.refl _) (.old rfl (BLe.rowW (Nat.le_refl _) (fun z hz => Wks.of (by simp [opP]))) .nil))))))))
          ((repeat' first | exact TLes.nil | refine TLes.cons (TLe.eq rfl) ?_); skip)
        intro i hi
        have hll : (L ++ opP x f.regs i).length = L.length + i := by rw [List.length_append, opP_len]
        have hsucc := opP_succ x f.regs i
        (repeat' ((fail_if_success (show AWp _ _ _ (Code.region 20 _ _) _ _)); first | refine AWp_seq ?_ | (refine AWp_reg tok (by rfl) ?_; conv => whnf) | refine AWp_block ?_ | (refine AWp_skip ?_; conv => whnf) | (refine AWp_exit ?_; conv => whnf) | refine AWp_cond rfl (fun hb => ?_) (fun hb => ?_)))
        · have hlti : i < g.params.toNat := by simp only [decide_eq_true_eq] at hb; omega
          clear hb
          have hAi : opA x f.regs i = ⟨2, wi (f.regs + i), x.args.getD i 0, 0, 0, 0, []⟩ := if_pos (by omega)
          ((repeat' first | (refine AWp_reg tok (by rfl) ?_; conv => whnf) | (refine @And.intro (underG _ _ _ _) _ ?_ ?_; rotate_left; (conv => whnf); rotate_right)); all_goals (try ((guard_target = underG _ _ _ _); refine underG_none ?_; (first | refine And.intro (srcObl_rs rfl ?_) ?_ | skip); (all_goals (try simp only [underG, true_and, and_true, Bool.cond_true_left, Bool.cond_false_left, Bool.cond_true_right, Bool.cond_false_right, Bool.or_eq_true, Bool.and_eq_true, Bool.or_eq_false_iff, Bool.and_eq_false_iff, cond_true, cond_false, Bool.not_eq_eq_eq_not, Bool.not_true, Bool.not_false, decide_eq_true_eq, decide_eq_false_iff_not, Int.toNat_natCast, Nat.zero_add, Decidable.not_not, maxL, inn_iff] at *)); all_goals omega)))
          refine ⟨i + 1, hlti, by omega, ?_⟩
          refine Weak.list [((2, 0, 0), .old (2, 0, 0), boxed (encMod m)), ((4, 0, 0), .old (4, 0, 0), boxed [iv 0, iv 0, .nsl]), ((5, 0, 0), .old (5, 0, 0), .row true 3 1 (fun _ => encFunc f)), ((8, 0, 0), .old (8, 0, 0), .row true 1 1 (fun _ => encMod (modK m n k))), ((10, 0, 0), .old (10, 0, 0), .row true 14 1 (fun _ => encBlock b)), ((14, 0, 0), .old (14, 0, 0), .row true 7 1 (fun _ => encIns x)), ((15, 0, 0), .old (15, 0, 0), .row true 3 1 (fun _ => encFunc g)), ((11, 1, 0), .old (93, 0, 0), .row true 7 (L.length + (i + 1)) (fun y => encIns ((L ++ opP x f.regs (i + 1)).getD y default)))] rfl (by rfl) ?_ (.old rfl (BLe.refl _) (.old rfl (BLe.refl _) (.old rfl (BLe.refl _) (.old rfl (BLe.refl _) (.old rfl (BLe.refl _) (.old rfl (BLe.refl _) (.old rfl (BLe.refl _) (.old rfl (BLe.rowW ?_ (fun z hz => ?_)) .nil))))))))
          · ((repeat' first | exact TLes.nil | refine TLes.cons (TLe.eq rfl) ?_ | refine TLes.cons (TLe.int ?_) ?_); (all_goals first | ((try (simp only [underG, true_and, and_true, Bool.cond_true_left, Bool.cond_false_left, Bool.cond_true_right, Bool.cond_false_right, Bool.or_eq_true, Bool.and_eq_true, Bool.or_eq_false_iff, Bool.and_eq_false_iff, cond_true, cond_false, Bool.not_eq_eq_eq_not, Bool.not_true, Bool.not_false, decide_eq_true_eq, decide_eq_false_iff_not, Int.toNat_natCast, Nat.zero_add, Decidable.not_not, maxL, inn_iff] at *)); exact wrap64 (by omega) (by omega)) | skip))
          · exact Nat.le_refl _
          · rw [hsucc, hAi, ← List.append_assoc]
            exact wks_snoc (c := [iv 2, iv (wi (f.regs + i)), iv (x.args.getD (i : Int).toNat 0), iv 0, .int .u16 0, iv 0, .nsl]) hll.symm (fun q _ => rfl) rfl (.cons .refl (.cons .refl (.cons .refl (.cons .refl (.cons .refl (.cons .refl (.cons (.nsl rfl) .nil))))))) hz
        have hin : i = g.params.toNat := by simp only [decide_eq_false_iff_not] at hb; omega
        clear hb
        subst hin
        clear hsucc
        skip
        refine AWp_loop (fun i : Nat => mkS [(1, iv n), (2, .bp (2, 0, 0) 0), (4, .bp (4, 0, 0) 0), (5, .bp (5, 0, 0) 0), (6, iv f.regs), (7, iv A), (8, .bp (8, 0, 0) 0), (9, iv k), (10, .bp (10, 0, 0) 0), (11, .rs (11, 1, 0) 7 0 (L.length + i)), (12, iv a), (13, iv j), (14, .bp (14, 0, 0) 0), (15, .bp (15, 0, 0) 0), (17, iv i)] [((2, 0, 0), boxed (encMod m)), ((4, 0, 0), boxed [iv 0, iv 0, .nsl]), ((5, 0, 0), .row true 3 1 (fun _ => encFunc f)), ((8, 0, 0), .row true 1 1 (fun _ => encMod (modK m n k))), ((10, 0, 0), .row true 14 1 (fun _ => encBlock b)), ((14, 0, 0), .row true 7 1 (fun _ => encIns x)), ((15, 0, 0), .row true 3 1 (fun _ => encFunc g)), ((11, 1, 0), .row true 7 (L.length + i) (fun y => encIns ((L ++ opP x f.regs i).getD y default)))])
          (fun i => g.params.toNat ≤ i ∧ i ≤ g.regs.toNat) (fun i => g.regs.toNat - i) g.params.toNat ⟨Nat.le_refl _, by omega⟩ ?_ ?_
        · refine Weak.list [((2, 0, 0), .old (2, 0, 0), boxed (encMod m)), ((4, 0, 0), .old (4, 0, 0), boxed [iv 0, iv 0, .nsl]), ((5, 0, 0), .old (5, 0, 0), .row true 3 1 (fun _ => encFunc f)), ((8, 0, 0), .old (8, 0, 0), .row true 1 1 (fun _ => encMod (modK m n k))), ((10, 0, 0), .old (10, 0, 0), .row true 14 1 (fun _ => encBlock b)), ((14, 0, 0), .old (14, 0, 0), .row true 7 1 (fun _ => encIns x)), ((15, 0, 0), .old (15, 0, 0), .row true 3 1 (fun _ => encFunc g)), ((11, 1, 0), .old (11, 1, 0), .row true 7 (L.length + g.params.toNat) (fun y => encIns ((L ++ opP x f.regs g.params.toNat).getD y default)))] rfl (by rfl) ?_ (.old rfl (BLe.refl _) (.old rfl (BLe.refl _) (.old rfl (BLe.refl _) (.old rfl (BLe.refl _) (.old rfl (BLe.refl _) (.old rfl (BLe.refl _) (.old rfl (BLe.refl _) (.old rfl (BLe.refl _) .nil))))))))
          ((repeat' first | exact TLes.nil | refine TLes.cons (TLe.eq rfl) ?_ | refine TLes.cons (TLe.int ?_) ?_); (all_goals first | ((try (simp only [underG, true_and, and_true, Bool.cond_true_left, Bool.cond_false_left, Bool.cond_true_right, Bool.cond_false_right, Bool.or_eq_true, Bool.and_eq_true, Bool.or_eq_false_iff, Bool.and_eq_false_iff, cond_true, cond_false, Bool.not_eq_eq_eq_not, Bool.not_true, Bool.not_false, decide_eq_true_eq, decide_eq_false_iff_not, Int.toNat_natCast, Nat.zero_add, Decidable.not_not, maxL, inn_iff] at *)); omega) | skip))
        clear hi hll
        rintro i ⟨hi0, hi⟩
        have hll : (L ++ opP x f.regs i).length = L.length + i := by rw [List.length_append, opP_len]
        have hsucc := opP_succ x f.regs i
        (repeat' ((fail_if_success (show AWp _ _ _ (Code.region 24 _ _) _ _)); first | refine AWp_seq ?_ | (refine AWp_reg tok (by rfl) ?_; conv => whnf) | refine AWp_block ?_ | (refine AWp_skip ?_; conv => whnf) | (refine AWp_exit ?_; conv => whnf) | refine AWp_cond rfl (fun hb => ?_) (fun hb => ?_)))
        · have hlti : i < g.regs.toNat := by simp only [decide_eq_true_eq] at hb; omega
          clear hb
          have hAi : opA x f.regs i = ⟨1, wi (f.regs + i), 0, 0, 0, 0, []⟩ := if_neg (by omega)
          ((repeat' first | (refine AWp_reg tok (by rfl) ?_; conv => whnf) | (refine @And.intro (underG _ _ _ _) _ ?_ ?_; rotate_left; (conv => whnf); rotate_right)); all_goals (try ((guard_target = underG _ _ _ _); refine underG_none ?_; (first | refine And.intro (srcObl_rs rfl ?_) ?_ | skip); (all_goals (try simp only [underG, true_and, and_true, Bool.cond_true_left, Bool.cond_false_left, Bool.cond_true_right, Bool.cond_false_right, Bool.or_eq_true, Bool.and_eq_true, Bool.or_eq_false_iff, Bool.and_eq_false_iff, cond_true, cond_false, Bool.not_eq_eq_eq_not, Bool.not_true, Bool.not_false, decide_eq_true_eq, decide_eq_false_iff_not, Int.toNat_natCast, Nat.zero_add, Decidable.not_not, maxL, inn_iff] at *)); all_goals omega)))
          refine ⟨i + 1, ⟨by omega, hlti⟩, by omega, ?_⟩
          refine Weak.list [((2, 0, 0), .old (2, 0, 0), boxed (encMod m)), ((4, 0, 0), .old (4, 0, 0), boxed [iv 0, iv 0, .nsl]), ((5, 0, 0), .old (5, 0, 0), .row true 3 1 (fun _ => encFunc f)), ((8, 0, 0), .old (8, 0, 0), .row true 1 1 (fun _ => encMod (modK m n k))), ((10, 0, 0), .old (10, 0, 0), .row true 14 1 (fun _ => encBlock b)), ((14, 0, 0), .old (14, 0, 0), .row true 7 1 (fun _ => encIns x)), ((15, 0, 0), .old (15, 0, 0), .row true 3 1 (fun _ => encFunc g)), ((11, 1, 0), .old (108, 0, 0), .row true 7 (L.length + (i + 1)) (fun y => encIns ((L ++ opP x f.regs (i + 1)).getD y default)))] rfl (by rfl) ?_ (.old rfl (BLe.refl _) (.old rfl (BLe.refl _) (.old rfl (BLe.refl _) (.old rfl (BLe.refl _) (.old rfl (BLe.refl _) (.old rfl (BLe.refl _) (.old rfl (BLe.refl _) (.old rfl (BLe.rowW ?_ (fun z hz => ?_)) .nil))))))))
          · ((repeat' first | exact TLes.nil | refine TLes.cons (TLe.eq rfl) ?_ | refine TLes.cons (TLe.int ?_) ?_); (all_goals first | ((try (simp only [underG, true_and, and_true, Bool.cond_true_left, Bool.cond_false_left, Bool.cond_true_right, Bool.cond_false_right, Bool.or_eq_true, Bool.and_eq_true, Bool.or_eq_false_iff, Bool.and_eq_false_iff, cond_true, cond_false, Bool.not_eq_eq_eq_not, Bool.not_true, Bool.not_false, decide_eq_true_eq, decide_eq_false_iff_not, Int.toNat_natCast, Nat.zero_add, Decidable.not_not, maxL, inn_iff] at *)); exact wrap64 (by omega) (by omega)) | skip))
          · exact Nat.le_refl _
          · rw [hsucc, hAi, ← List.append_assoc]
            exact wks_snoc (c := [iv 1, iv (wi (f.regs + i)), iv 0, iv 0, .int .u16 0, iv 0, .nsl]) hll.symm (fun q _ => rfl) rfl (.cons .refl (.cons .refl (.cons .refl (.cons .refl (.cons .refl (.cons .refl (.cons (.nsl rfl) .nil))))))) hz
        have hin : i = g.regs.toNat := by simp only [decide_eq_false_iff_not] at hb; omega
        clear hb hi0 hi hsucc
        subst hin
        have hgen : ∃ P, L ++ opP x f.regs g.regs.toNat = P := ⟨_, rfl⟩
        obtain ⟨P, hP⟩ := hgen
        rw [hP] at hll
        have hgen : ∃ c, g.blocks.getD 0 default = c := ⟨_, rfl⟩
        obtain ⟨c, hc0⟩ := hgen
        have hc1 : g.blocks.getD (Int.toNat 0) default = c := hc0
        obtain ⟨hs1', _, hs3', _, hno⟩ := smallF_of hsm
        rw [hc0] at hs3' hno
        have hops : ∀ i, i < c.ins.length → 1 ≤ (c.ins.getD i default).op ∧ (c.ins.getD i default).op ≤ 13 ∧ (c.ins.getD i default).op ≠ 11 := fun i hi => by
          have h1 := right_insP hr (n := x.f.toNat) (i := 0) (j := i) (by omega) (by rw [hg]; omega) (by rw [hg, hc0]; exact hi)
          rw [hg, hc0] at h1
          have h2 := insP_op h1
          exact ⟨h2.1, h2.2, hno i hi⟩
        skip
        refine AWp_loop (fun i : Nat => mkS [(1, iv n), (2, .bp (2, 0, 0) 0), (4, .bp (4, 0, 0) 0), (5, .bp (5, 0, 0) 0), (6, iv f.regs), (7, iv A), (8, .bp (8, 0, 0) 0), (9, iv k), (10, .bp (10, 0, 0) 0), (11, .rs (11, 1, 0) 7 0 (P.length + i)), (12, iv a), (13, iv j), (14, .bp (14, 0, 0) 0), (15, .bp (15, 0, 0) 0), (18, iv i)] [((2, 0, 0), boxed (encMod m)), ((4, 0, 0), boxed [iv 0, iv 0, .nsl]), ((5, 0, 0), .row true 3 1 (fun _ => encFunc f)), ((8, 0, 0), .row true 1 1 (fun _ => encMod (modK m n k))), ((10, 0, 0), .row true 14 1 (fun _ => encBlock b)), ((14, 0, 0), .row true 7 1 (fun _ => encIns x)), ((15, 0, 0), .row true 3 1 (fun _ => encFunc g)), ((11, 1, 0), .row true 7 (P.length + i) (fun y => encIns ((P ++ mvP c.ins f.regs i).getD y default)))])
          (fun i => i ≤ c.ins.length) (fun i => c.ins.length - i) 0 (Nat.zero_le _) ?_ ?_
        · refine Weak.list [((2, 0, 0), .old (2, 0, 0), boxed (encMod m)), ((4, 0, 0), .old (4, 0, 0), boxed [iv 0, iv 0, .nsl]), ((5, 0, 0), .old (5, 0, 0), .row true 3 1 (fun _ => encFunc f)), ((8, 0, 0), .old (8, 0, 0), .row true 1 1 (fun _ => encMod (modK m n k))), ((10, 0, 0), .old (10, 0, 0), .row true 14 1 (fun _ => encBlock b)), ((14, 0, 0), .old (14, 0, 0), .row true 7 1 (fun _ => encIns x)), ((15, 0, 0), .old (15, 0, 0), .row true 3 1 (fun _ => encFunc g)), ((11, 1, 0), .old (11, 1, 0), .row true 7 (P.length + 0) (fun y => encIns ((P ++ mvP c.ins f.regs 0).getD y default)))] rfl (by rfl) ?_ (.old rfl (BLe.refl _) (.old rfl (BLe.refl _) (.old rfl (BLe.refl _) (.old rfl (BLe.refl _) (.old rfl (BLe.refl _) (.old rfl (BLe.refl _) (.old rfl (BLe.refl _) (.old rfl (BLe.rowW (Nat.le_of_eq (by rw [hll]; rfl)) (fun z hz => Wks.of (by simp [mvP, hP]))) .nil))))))))
          · (repeat' first | exact TLes.nil | refine TLes.cons (TLe.eq rfl) ?_ | refine TLes.cons (TLe.rsL rfl ?_) ?_)
            all_goals (rw [hll]; rfl)
        intro i hi
        have hml : (P ++ mvP c.ins f.regs i).length = P.length + i := by rw [List.length_append, mvP_len hi]
        have hcl2 : (g.blocks.getD (Int.toNat 0) default).ins.length = c.ins.length := by rw [hc1]
        ((repeat' ((fail_if_success (show AWp _ _ _ (Code.region 27 _ _) _ _)); first | refine AWp_seq ?_ | (refine AWp_reg tok (by rfl) ?_; conv => whnf) | (refine AWp_any tok mix (by rfl) ?_; conv => whnf) | refine AWp_block ?_ | (refine AWp_skip ?_; conv => whnf) | (refine AWp_exit ?_; conv => whnf) | refine AWp_cond rfl (fun hb => ?_) (fun hb => ?_) | (refine @And.intro (underG _ _ _ _) _ ?_ ?_; rotate_left; (conv => whnf); rotate_right))); all_goals (try ((guard_target = underG _ _ _ _); refine underG_none ?_; (first | refine And.intro (srcObl_rs rfl ?_) ?_ | skip); (all_goals (try simp only [underG, true_and, and_true, Bool.cond_true_left, Bool.cond_false_left, Bool.cond_true_right, Bool.cond_false_right, Bool.or_eq_true, Bool.and_eq_true, Bool.or_eq_false_iff, Bool.and_eq_false_iff, cond_true, cond_false, Bool.not_eq_eq_eq_not, Bool.not_true, Bool.not_false, decide_eq_true_eq, decide_eq_false_iff_not, Int.toNat_natCast, Nat.zero_add, Decidable.not_not, maxL, inn_iff] at *)); all_goals omega)))
        · have hlti : i < c.ins.length := by rw [hcl2] at hb; simp only [decide_eq_true_eq] at hb; omega
          clear hb
          have hcall : ∀ y, y = c.ins.getD i default → FC Try.prog 87 [.agg (encIns y), iv f.regs] (.agg (encIns (mv1 (c.ins.getD i default) f.regs))) := fun y e => by
            subst e; rw [← mv_eq _ (hops i hlti)]; exact c_r23moved _ _
          have hsucc := mvP_succ (base := f.regs) hlti
          refine .inl ⟨_, _, _, uG (QC.fc (hcall ((g.blocks.getD (Int.toNat 0) default).ins.getD (i : Int).toNat default) (by rw [hc1, Int.toNat_natCast])) rfl), ?_⟩
          conv => whnf
          ((repeat' first | (refine AWp_reg tok (by rfl) ?_; conv => whnf) | (refine @And.intro (underG _ _ _ _) _ ?_ ?_; rotate_left; (conv => whnf); rotate_right)); all_goals (try ((guard_target = underG _ _ _ _); refine underG_none ?_; (first | refine And.intro (srcObl_rs rfl ?_) ?_ | skip); (all_goals (try simp only [underG, true_and, and_true, Bool.cond_true_left, Bool.cond_false_left, Bool.cond_true_right, Bool.cond_false_right, Bool.or_eq_true, Bool.and_eq_true, Bool.or_eq_false_iff, Bool.and_eq_false_iff, cond_true, cond_false, Bool.not_eq_eq_eq_not, Bool.not_true, Bool.not_false, decide_eq_true_eq, decide_eq_false_iff_not, Int.toNat_natCast, Nat.zero_add, Decidable.not_not, maxL, inn_iff] at *)); all_goals omega)))
          refine ⟨i + 1, hlti, by omega, ?_⟩
          refine Weak.list [((2, 0, 0), .old (2, 0, 0), boxed (encMod m)), ((4, 0, 0), .old (4, 0, 0), boxed [iv 0, iv 0, .nsl]), ((5, 0, 0), .old (5, 0, 0), .row true 3 1 (fun _ => encFunc f)), ((8, 0, 0), .old (8, 0, 0), .row true 1 1 (fun _ => encMod (modK m n k))), ((10, 0, 0), .old (10, 0, 0), .row true 14 1 (fun _ => encBlock b)), ((14, 0, 0), .old (14, 0, 0), .row true 7 1 (fun _ => encIns x)), ((15, 0, 0), .old (15, 0, 0), .row true 3 1 (fun _ => encFunc g)), ((11, 1, 0), .old (131, 0, 0), .row true 7 (P.length + (i + 1)) (fun y => encIns ((P ++ mvP c.ins f.regs (i + 1)).getD y default)))] rfl (by rfl) ?_ (.old rfl (BLe.refl _) (.old rfl (BLe.refl _) (.old rfl (BLe.refl _) (.old rfl (BLe.refl _) (.old rfl (BLe.refl _) (.old rfl (BLe.refl _) (.old rfl (BLe.refl _) (.old rfl (BLe.rowW ?_ (fun z hz => Wks.of ?_)) .nil))))))))
          · ((repeat' first | exact TLes.nil | refine TLes.cons (TLe.eq rfl) ?_ | refine TLes.cons (TLe.int ?_) ?_); (all_goals first | ((try (simp only [underG, true_and, and_true, Bool.cond_true_left, Bool.cond_false_left, Bool.cond_true_right, Bool.cond_false_right, Bool.or_eq_true, Bool.and_eq_true, Bool.or_eq_false_iff, Bool.and_eq_false_iff, cond_true, cond_false, Bool.not_eq_eq_eq_not, Bool.not_true, Bool.not_false, decide_eq_true_eq, decide_eq_false_iff_not, Int.toNat_natCast, Nat.zero_add, Decidable.not_not, maxL, inn_iff] at *)); exact wrap64 (by omega) (by omega)) | skip))
          · exact Nat.le_refl _
          · rw [hsucc, ← List.append_assoc]
            exact app_snoc encIns default 7 hml.symm (fun q _ => rfl) rfl rfl hz
        all_goals
          have hil : i = c.ins.length := by rename_i hbi; rw [hcl2] at hbi; simp only [decide_eq_false_iff_not] at hbi; omega
          subst hil
          have hO : openL x g f.regs = opP x f.regs g.regs.toNat ++ mvP c.ins f.regs c.ins.length ++ [opEnd x g f.regs] := by
            unfold openL mvP; rw [hc0, List.take_length]
          have hout : outX m n (b.ins.take (j + 1)) = (P ++ mvP c.ins f.regs c.ins.length) ++ [opEnd x g f.regs] := by
            rw [hs1, hO, ← hP]; simp only [List.append_assoc]
        · refine ⟨j + 1, hlt, by omega, ?_⟩
          refine Weak.list [((2, 0, 0), .old (2, 0, 0), boxed (encMod m)), ((4, 0, 0), .old (4, 0, 0), boxed [iv 0, iv 0, .nsl]), ((5, 0, 0), .old (5, 0, 0), .row true 3 1 (fun _ => encFunc f)), ((8, 0, 0), .old (8, 0, 0), .row true 1 1 (fun _ => encMod (modK m n k))), ((10, 0, 0), .old (10, 0, 0), .row true 14 1 (fun _ => encBlock b)), ((11, 1, 0), .old (145, 0, 0), .row true 7 (outX m n (b.ins.take (j + 1))).length (fun y => encIns ((outX m n (b.ins.take (j + 1))).getD y default)))] rfl (by rfl) ?_ (.old rfl (BLe.refl _) (.old rfl (BLe.refl _) (.old rfl (BLe.refl _) (.old rfl (BLe.refl _) (.old rfl (BLe.refl _) (.old rfl (BLe.rowW ?_ (fun z hz => ?_)) .nil))))))
          · (repeat' first | exact TLes.nil | refine TLes.cons (TLe.eq rfl) ?_ | refine TLes.cons (TLe.rsL rfl ?_) ?_ | refine TLes.cons (TLe.int ?_) ?_)
            · rw [hout, List.length_append, hml]; rfl
            · rw [hs2]; rename_i hq; simp only [decide_eq_true_eq, decide_eq_false_iff_not] at hq; omega
            · exact wrap64 (by omega) (by omega)
          · rw [hout, List.length_append, hml]; exact Nat.le_refl _
          · rw [hout] at hz ⊢
            rw [List.length_append, hml] at hz
            exact wks_snoc (c := [iv 2, iv x.dst, iv (wi (f.regs + (g.blocks.getD (Int.toNat 0) default).fin.a)), iv 0, .int .u16 0, iv 0, .nsl]) hml.symm (fun q _ => rfl) rfl (.cons .refl (.cons .refl (.cons .refl (.cons .refl (.cons .refl (.cons .refl (.cons (.nsl rfl) .nil))))))) hz
        · refine ⟨j + 1, hlt, by omega, ?_⟩
          refine Weak.list [((2, 0, 0), .old (2, 0, 0), boxed (encMod m)), ((4, 0, 0), .old (4, 0, 0), boxed [iv 0, iv 0, .nsl]), ((5, 0, 0), .old (5, 0, 0), .row true 3 1 (fun _ => encFunc f)), ((8, 0, 0), .old (8, 0, 0), .row true 1 1 (fun _ => encMod (modK m n k))), ((10, 0, 0), .old (10, 0, 0), .row true 14 1 (fun _ => encBlock b)), ((11, 1, 0), .old (145, 0, 0), .row true 7 (outX m n (b.ins.take (j + 1))).length (fun y => encIns ((outX m n (b.ins.take (j + 1))).getD y default)))] rfl (by rfl) ?_ (.old rfl (BLe.refl _) (.old rfl (BLe.refl _) (.old rfl (BLe.refl _) (.old rfl (BLe.refl _) (.old rfl (BLe.refl _) (.old rfl (BLe.rowW ?_ (fun z hz => ?_)) .nil))))))
          · (repeat' first | exact TLes.nil | refine TLes.cons (TLe.eq rfl) ?_ | refine TLes.cons (TLe.rsL rfl ?_) ?_ | refine TLes.cons (TLe.int ?_) ?_)
            · rw [hout, List.length_append, hml]; rfl
            · rw [hs2]; rename_i hq; simp only [decide_eq_true_eq, decide_eq_false_iff_not] at hq; omega
            · exact wrap64 (by omega) (by omega)
          · rw [hout, List.length_append, hml]; exact Nat.le_refl _
          · rw [hout] at hz ⊢
            rw [List.length_append, hml] at hz
            exact wks_snoc (c := [iv 2, iv x.dst, iv (wi (f.regs + (g.blocks.getD (Int.toNat 0) default).fin.a)), iv 0, .int .u16 0, iv 0, .nsl]) hml.symm (fun q _ => rfl) rfl (.cons .refl (.cons .refl (.cons .refl (.cons .refl (.cons .refl (.cons .refl (.cons (.nsl rfl) .nil))))))) hz
      · have hin : inlX m n x = false := by
          unfold inlX
          rw [Bool.and_eq_false_iff, decide_eq_false_iff_not]
          simp [cond_eq_ite] at hb
          grind
        have hbx : blkX m n x = [x] := by unfold blkX; rw [hin]; rfl
        have hmr : mrX m n a x = a := by unfold mrX; rw [hin]; rfl
        rw [hbx] at hs1
        rw [hmr] at hs2
        clear hb
        skip
        refine ⟨j + 1, hlt, by omega, ?_⟩
        refine Weak.list [((2, 0, 0), .old (2, 0, 0), boxed (encMod m)), ((4, 0, 0), .old (4, 0, 0), boxed [iv 0, iv 0, .nsl]), ((5, 0, 0), .old (5, 0, 0), .row true 3 1 (fun _ => encFunc f)), ((8, 0, 0), .old (8, 0, 0), .row true 1 1 (fun _ => encMod (modK m n k))), ((10, 0, 0), .old (10, 0, 0), .row true 14 1 (fun _ => encBlock b)), ((11, 1, 0), .old (155, 0, 0), .row true 7 (outX m n (b.ins.take (j + 1))).length (fun y => encIns ((outX m n (b.ins.take (j + 1))).getD y default)))] rfl (by rfl) ?_ (.old rfl (BLe.refl _) (.old rfl (BLe.refl _) (.old rfl (BLe.refl _) (.old rfl (BLe.refl _) (.old rfl (BLe.refl _) (.old rfl (BLe.rowW ?_ (fun z hz => Wks.of ?_)) .nil))))))
        · (repeat' first | exact TLes.nil | refine TLes.cons (TLe.eq rfl) ?_ | refine TLes.cons (TLe.rsL rfl ?_) ?_ | refine TLes.cons (TLe.int ?_) ?_)
          · rw [hs1, List.length_append]; rfl
          · rw [hs2]
          · exact wrap64 (by omega) (by omega)
        · rw [hs1, List.length_append]; exact Nat.le_refl _
        · rw [hs1] at hz ⊢
          rw [List.length_append] at hz
          exact app_snoc encIns default 7 rfl (fun q _ => rfl) rfl rfl hz
    · have hjl : j = b.ins.length := by rename_i hbj; simp only [decide_eq_false_iff_not] at hbj; omega
      subst hjl
      rw [List.take_length] at hb
      have h64' : ¬ 64 < (outX m n b.ins).length := by simp only [decide_eq_true_eq] at hb; omega
      have hbi : blockI m n b.ins = (outX m n b.ins, moreX m n b.ins) := if_neg h64'
      clear hb
      rw [hbi] at hmost
      have hW := c_With (modK m n k) n k (blkI m n b) (by rw [modK_len]; exact hn) (by rw [modK_n hn, hf]; simp only [mapB_len]; exact hkl)
      have hS : setB (modK m n k) n k (blkI m n b) = modK m n (k + 1) := by
        have := modK_succ (m := m) hn (k := k) (by rw [hf]; exact hkl)
        rw [hf, hbk] at this; exact this
      rw [hS] at hW
      refine .inr ⟨_, _, _, uG (QH.give (args' := [.agg (encMod (modK m n k)), iv n, iv k, .agg (encBlock (blkI m n b))]) (rd := [(11, 1, 0)]) hW (.cons (.imm rfl) (.cons (.imm rfl) (.cons (.imm rfl) (.cons (.agg (.cons (.imm rfl) (.cons (.imm rfl) (.cons (.imm rfl) (.cons (.imm rfl) (.cons (.imm rfl) (.cons (.rs rfl (List.mem_singleton.2 rfl) (Nat.le_of_eq (Nat.zero_add _)) ?_ (fun x hx => ?_)) (Ress.imms rfl)))))))) .nil)))) rfl), ?_⟩
      · show (outX m n (b.ins.take b.ins.length)).length = (blockI m n b.ins).1.length
        rw [hbi, List.take_length]
      · show encIns ((outX m n (b.ins.take b.ins.length)).getD (0 + x) default) = encIns ((blockI m n b.ins).1.getD x default)
        rw [hbi, List.take_length, Nat.zero_add]
      conv => whnf
      (repeat' first | refine AWp_seq ?_ | (refine AWp_reg tok (by rfl) ?_; conv => whnf) | (refine AWp_skip ?_; conv => whnf) | refine AWp_cond rfl (fun hb => ?_) (fun hb => ?_))
      all_goals
        refine ⟨k + 1, hkl, by omega, ?_⟩
        refine Weak.list [((2, 0, 0), .old (2, 0, 0), boxed (encMod m)), ((4, 0, 0), .old (4, 0, 0), boxed [iv 0, iv 0, .nsl]), ((5, 0, 0), .old (5, 0, 0), .row true 3 1 (fun _ => encFunc f)), ((8, 0, 0), .old (8, 0, 0), .row true 1 1 (fun _ => encMod (modK m n (k + 1))))] rfl (by rfl) ?_ (.old rfl (BLe.refl _) (.old rfl (BLe.refl _) (.old rfl (BLe.refl _) (.old rfl (BLe.rowW (Nat.le_refl _) (ltS (Wks.of rfl) lt0)) .nil))))
        (repeat' first | exact TLes.nil | refine TLes.cons (TLe.eq rfl) ?_ | refine TLes.cons (TLe.int ?_) ?_)
        · rw [hmost]; rw [List.take_length] at hb; try rw [List.take_length]
          simp only [decide_eq_true_eq, decide_eq_false_iff_not] at hb; simp only; omega
        · exact wrap64 (by omega) (by omega)
    · have hjl : j = b.ins.length := by rename_i hbj; simp only [decide_eq_false_iff_not] at hbj; omega
      subst hjl
      rw [List.take_length] at hb
      have h64' : 64 < (outX m n b.ins).length := by simp only [decide_eq_false_iff_not] at hb; omega
      have hbi : blockI m n b.ins = (b.ins, 0) := if_pos h64'
      clear hb
      rw [hbi] at hmost
      have hsame : modK m n (k + 1) = modK m n k := modK_same (by rw [hf]; exact hkl) (by rw [hf, hbk]; unfold blkI; rw [hbi])
      have hA0 := (mostL_le m n (f.blocks.take k)).1
      rw [hA] at hA0
      refine ⟨k + 1, hkl, by omega, ?_⟩
      refine Weak.list [((2, 0, 0), .old (2, 0, 0), boxed (encMod m)), ((4, 0, 0), .old (4, 0, 0), boxed [iv 0, iv 0, .nsl]), ((5, 0, 0), .old (5, 0, 0), .row true 3 1 (fun _ => encFunc f)), ((8, 0, 0), .old (8, 0, 0), .row true 1 1 (fun _ => encMod (modK m n (k + 1))))] rfl (by rfl) ?_ (.old rfl (BLe.refl _) (.old rfl (BLe.refl _) (.old rfl (BLe.refl _) (.old rfl (BLe.rowW (Nat.le_refl _) (ltS (Wks.of (by rw [hsame]; rfl)) lt0)) .nil))))
      (repeat' first | exact TLes.nil | refine TLes.cons (TLe.eq rfl) ?_ | refine TLes.cons (TLe.int ?_) ?_)
      · rw [hmost]; omega
      · exact wrap64 (by omega) (by omega)
  all_goals
    have hkl : k = f.blocks.length := by rename_i hbk; simp only [decide_eq_false_iff_not] at hbk; omega
    subst hkl
    have hreg : (bigF m n).regs = f.regs + mostL m n f.blocks := by simp only [bigF, hf]
    have hml := mostL_le m n f.blocks
    have hfr := hF.2.2.2.1
    have hfr0 : 0 ≤ f.regs := Int.le_trans hF.1 hF.2.2.1
    rw [List.take_length] at hb
    have hw : IntKind.i64.wrap (f.regs + mostL m n f.blocks) = f.regs + mostL m n f.blocks := wrap64 (by omega) (by omega)
    rw [hw] at hb
    have hln : (modK m n f.blocks.length).funcs.length = m.funcs.length := modK_len _ _ _
  · have hN : funN m n = f := by
      unfold funN; rw [if_pos (by rw [hreg]; simpa using hb)]; exact hf
    rw [hN]
    exact ⟨_, rfl, Rel.agg (Rels.imm rfl)⟩
  · refine underG_none ?_
    show (0 : Int) ≤ n ∧ (n : Int) < (((modK m n f.blocks.length).funcs.length : Nat) : Int)
    omega
  · have hN : funN m n = bigF m n := by
      unfold funN; rw [if_neg (by rw [hreg]; simpa using hb)]
    rw [hN]
    have hkn := modK_n (k := f.blocks.length) hn
    rw [hf] at hkn
    refine ⟨_, rfl, ?_⟩
    have e1 : (modK m n f.blocks.length).funcs.getD (Int.toNat n) default = { f with blocks := mapB (blkI m n) f.blocks f.blocks.length } := by rw [Int.toNat_natCast]; exact hkn
    refine Rel.agg (.cons (Rel.int ?_) (.cons (Rel.int ?_) (.cons ?_ .nil)))
    · show ((modK m n f.blocks.length).funcs.getD (Int.toNat n) default).params = _
      rw [e1]; simp only [bigF, hf]
    · rw [List.take_length, hw]; exact hreg.symm
    · show Rel _ (blockss ((modK m n f.blocks.length).funcs.getD (Int.toNat n) default).blocks) (blockss (bigF m n).blocks)
      rw [e1]
      rw [show (bigF m n).blocks = mapB (blkI m n) f.blocks f.blocks.length from by rw [mapB_all]; simp only [bigF, hf]]
      exact Rel.imm rfl
set_option maxHeartbeats 1000000 in
theorem c_r23Module (m : Module) (hr : rightB m = true) : FC Try.prog 46 [.agg (encMod m)] (.agg (encMod (moduleI m))) := by
  obtain ⟨fs⟩ := m
  refine FC_intro tok Try.func46 rfl (by decide +kernel) (Nat.le_of_ble_eq_true rfl) ?_
  refine AWp_facts 0 (fun hl => ?_)
  have hl0 : fs.length ≤ maxL := hl.1.1
  have hmx : maxL = 4294967296 := rfl
  clear hl
  (repeat' first | refine AWp_seq ?_ | (refine AWp_reg tok (by rfl) ?_; conv => whnf) | refine AWp_block ?_)
  refine AWp_loop (fun i : Nat => mkS [(1, .bp (1, 0, 0) 0), (2, .bp (2, 0, 0) 0), (3, .bp (3, 0, 0) 0), (4, iv i)] [((1, 0, 0), boxed (encMod ⟨fs⟩)), ((2, 0, 0), boxed [.nsl]), ((3, 0, 0), .row false 1 1 (fun _ => [.rs (30, 0, 0) 3 0 i])), ((30, 0, 0), .row true 3 i (fun y => encFunc (funN ⟨fs⟩ y)))]) (fun i => i ≤ fs.length) (fun i => fs.length - i) 0 (Nat.zero_le _) ?_ ?_
  · refine Weak.list [((1, 0, 0), .old (1, 0, 0), boxed (encMod ⟨fs⟩)), ((2, 0, 0), .old (2, 0, 0), boxed [.nsl]), ((3, 0, 0), .old (3, 0, 0), .row false 1 1 (fun _ => [.rs (30, 0, 0) 3 0 0])), ((30, 0, 0), .nil, .row true 3 0 (fun y => encFunc (funN ⟨fs⟩ y)))] rfl (by rfl) ?_ (.old rfl (BLe.refl _) (.old rfl (BLe.refl _) (.oldR rfl (BLeR.cells rfl (fun x hx => .cons (.nil rfl) .nil)) (.new .nil))))
    ((repeat' first | exact TLes.nil | refine TLes.cons (TLe.eq rfl) ?_); skip)
  intro i hi
  (repeat' ((fail_if_success (show AWp _ _ _ (Code.region 5 _ _) _ _)); first | refine AWp_seq ?_ | (refine AWp_reg tok (by rfl) ?_; conv => whnf) | refine AWp_block ?_ | (refine AWp_skip ?_; conv => whnf) | (refine AWp_exit ?_; conv => whnf) | (refine AWp_ret ?_; conv => whnf) | refine AWp_cond rfl (fun hb => ?_) (fun hb => ?_)))
  · have hlt : i < fs.length := by simp only [decide_eq_true_eq] at hb; omega
    clear hb
    (repeat' (refine AWp_any tok mix (by rfl) ?_; conv => whnf))
    refine .inl ⟨_, _, _, uG (QC.fc (c_r23Func ⟨fs⟩ i hr hlt) rfl), ?_⟩
    conv => whnf
    ((repeat' first | (refine AWp_reg tok (by rfl) ?_; conv => whnf) | (refine @And.intro (underG _ _ _ _) _ ?_ ?_; rotate_left; (conv => whnf); rotate_right)); all_goals (try ((guard_target = underG _ _ _ _); refine underG_none ?_; (first | refine And.intro (srcObl_rs rfl ?_) ?_ | skip); (all_goals (try simp only [underG, true_and, and_true, Bool.cond_true_left, Bool.cond_false_left, Bool.cond_true_right, Bool.cond_false_right, Bool.or_eq_true, Bool.and_eq_true, Bool.or_eq_false_iff, Bool.and_eq_false_iff, cond_true, cond_false, Bool.not_eq_eq_eq_not, Bool.not_true, Bool.not_false, decide_eq_true_eq, decide_eq_false_iff_not, Int.toNat_natCast, Nat.zero_add, Decidable.not_not, maxL, inn_iff] at *)); all_goals omega)))
    refine ⟨i + 1, hlt, by omega, ?_⟩
    refine Weak.list [((1, 0, 0), .old (1, 0, 0), boxed (encMod ⟨fs⟩)), ((2, 0, 0), .old (2, 0, 0), boxed [.nsl]), ((3, 0, 0), .old (3, 0, 0), .row false 1 1 (fun _ => [.rs (30, 0, 0) 3 0 (i + 1)])), ((30, 0, 0), .old (18, 0, 0), .row true 3 (i + 1) (fun y => encFunc (funN ⟨fs⟩ y)))] rfl (by rfl) ?_ (.old rfl (BLe.refl _) (.old rfl (BLe.refl _) (.old rfl (BLe.rowO rfl) (.old rfl (BLe.rowW ?_ (fun z hz => Wks.of ?_)) .nil))))
    · ((repeat' first | exact TLes.nil | refine TLes.cons (TLe.eq rfl) ?_ | refine TLes.cons (TLe.int ?_) ?_); (all_goals first | ((try (simp only [underG, true_and, and_true, Bool.cond_true_left, Bool.cond_false_left, Bool.cond_true_right, Bool.cond_false_right, Bool.or_eq_true, Bool.and_eq_true, Bool.or_eq_false_iff, Bool.and_eq_false_iff, cond_true, cond_false, Bool.not_eq_eq_eq_not, Bool.not_true, Bool.not_false, decide_eq_true_eq, decide_eq_false_iff_not, Int.toNat_natCast, Nat.zero_add, Decidable.not_not, maxL, inn_iff] at *)); exact wrap64 (by omega) (by omega)) | skip))
    · exact Nat.le_refl _
    · exact app_fn (sz := 3) (f := fun y => encFunc (funN ⟨fs⟩ y)) (g := fun y => encFunc (funN ⟨fs⟩ y)) (c := encFunc (funN ⟨fs⟩ i)) (fun _ _ => rfl) rfl rfl hz
  · have hil : i = fs.length := by simp only [decide_eq_false_iff_not] at hb; omega
    clear hb
    subst hil
    refine ⟨_, rfl, Rel.agg (.cons ?_ .nil)⟩
    rw [show moduleI ⟨fs⟩ = ⟨(List.range fs.length).map (funN ⟨fs⟩)⟩ from if_pos hr]
    exact Rel.row rfl rfl (by simp) (fun z hz => by
      have hz2 : z < fs.length := by simpa using hz
      rw [range_getD _ _ hz2])
end Go.Proofs.Ytmanpbgaihdalaa
namespace Go.Proofs.Ytmanpbgaihdalaa
open Go Dv Go.ChangeShapes Go.WideShapes Go.ChangeAt Go.RowKit
open Go.Proofs.Ytmanpbgaihdalaa
set_option maxRecDepth 10000
set_option linter.unusedVariables false
section
variable {H : Type} {enc : TypeId × Value → H} {w : World}
abbrev Sm (H : Type) : DataW H → Prop := fun d => Rows.uptoBulk d ≤ 1048576
theorem bulk_all {ds : List (DataW H)} {n : Nat} (h : Rows.uptoBulkAll ds ≤ n) : ∀ d ∈ ds, Rows.uptoBulk d ≤ n := by
  induction ds with
  | nil => intro d hd; cases hd
  | cons x r ih =>
    simp only [Rows.uptoBulkAll] at h
    intro d hd
    simp only [List.mem_cons] at hd
    rcases hd with rfl | hd
    · omega
    · exact ih (by omega) d hd
theorem bulk_pos (d : DataW H) : 1 ≤ Rows.uptoBulk d := by
  cases d with
  | lit l => cases l <;> simp only [Rows.uptoBulk] <;> omega
  | _ => simp only [Rows.uptoBulk]; omega
theorem bulk_len {ds : List (DataW H)} {n : Nat} (h : Rows.uptoBulkAll ds ≤ n) : ds.length ≤ n := by
  induction ds generalizing n with
  | nil => simp
  | cons x r ih =>
    simp only [Rows.uptoBulkAll] at h
    have := bulk_pos x
    have := ih (n := n - Rows.uptoBulk x) (by omega)
    simp only [List.length_cons]; omega
theorem sm_agg (ds : List (DataW H)) (h : Sm H (.agg ds)) : ∀ d ∈ ds, Sm H d := by
  simp only [Sm, Rows.uptoBulk] at h; exact bulk_all (by omega)
theorem sm_slice (es sp : List (DataW H)) (h : Sm H (.slice es sp)) : es.length ≤ maxL ∧ ∀ x ∈ es, Sm H x := by
  simp only [Sm, Rows.uptoBulk] at h
  have h1 : Rows.uptoBulkAll es ≤ 1048576 := by omega
  exact ⟨Nat.le_trans (bulk_len h1) (by decide), bulk_all h1⟩
theorem rd_int : Rd enc Try.prog w (Sm H) 3 Int (fun n => [iv n]) := Rd.int Try.underlying3
theorem rd_u16 : Rd enc Try.prog w (Sm H) 55 Int (fun n => [.int .u16 n]) := Rd.int Try.underlying55
theorem rd_bool : Rd enc Try.prog w (Sm H) 4 Bool (fun b => [.bool b]) := Rd.bool Try.underlying4
theorem rd_ints : Rd enc Try.prog w (Sm H) 31 (List Int) (fun l => [ints l]) := Rd.slice Try.underlying31 (by decide +kernel) (Nat.le_refl _) (fun _ => ⟨rfl, rfl⟩) rd_int sm_slice
theorem rd_u16s : Rd enc Try.prog w (Sm H) 37 (List Int) (fun l => [u16s l]) := Rd.slice Try.underlying37 (by decide +kernel) (Nat.le_refl _) (fun _ => ⟨rfl, rfl⟩) rd_u16 sm_slice
theorem rd_Ins : Rd enc Try.prog w (Sm H) 57 Ins encIns :=
  Rd.map (fun x => ⟨x.1, x.2.1, x.2.2.1, x.2.2.2.1, x.2.2.2.2.1, x.2.2.2.2.2.1, x.2.2.2.2.2.2.1⟩)
    (Rd.struct (fl := [(3, 1), (3, 1), (3, 1), (3, 1), (55, 1), (3, 1), (31, 1)]) Try.underlying57 (.cons rd_int (.cons rd_int (.cons rd_int (.cons rd_int (.cons rd_u16 (.cons rd_int (.cons rd_ints .nil)))))))
      rfl (by decide +kernel) (by decide +kernel) sm_agg) (fun _ => rfl)
theorem rd_inss : Rd enc Try.prog w (Sm H) 40 (List Ins) (fun l => [inss l]) := Rd.slice Try.underlying40 (by decide +kernel) (by decide) (fun _ => ⟨rfl, rfl⟩) rd_Ins sm_slice
theorem rd_End : Rd enc Try.prog w (Sm H) 36 End encEnd :=
  Rd.map (fun x => ⟨x.1, x.2.1, x.2.2.1, x.2.2.2.1, x.2.2.2.2.1, x.2.2.2.2.2.1, x.2.2.2.2.2.2.1, x.2.2.2.2.2.2.2.1⟩)
    (Rd.struct (fl := [(3, 1), (3, 1), (3, 1), (3, 1), (31, 1), (3, 1), (3, 1), (3, 1)]) Try.underlying36 (.cons rd_int (.cons rd_int (.cons rd_int (.cons rd_int (.cons rd_ints (.cons rd_int (.cons rd_int (.cons rd_int .nil))))))))
      rfl (by decide +kernel) (by decide +kernel) sm_agg) (fun _ => rfl)
theorem rd_Pad : Rd enc Try.prog w (Sm H) 39 Pad encPad :=
  Rd.map (fun x => ⟨x.1, x.2.1, x.2.2.1, x.2.2.2.1⟩)
    (Rd.struct (fl := [(3, 1), (37, 1), (4, 1), (4, 1)]) Try.underlying39 (.cons rd_int (.cons rd_u16s (.cons rd_bool (.cons rd_bool .nil))))
      rfl (by decide +kernel) (by decide +kernel) sm_agg) (fun _ => rfl)
theorem rd_Block : Rd enc Try.prog w (Sm H) 42 Block encBlock :=
  Rd.map (fun x => ⟨x.1, x.2.1, x.2.2.1, x.2.2.2.1⟩)
    (Rd.struct (fl := [(4, 1), (39, 4), (40, 1), (36, 8)]) Try.underlying42 (.cons rd_bool (.cons rd_Pad (.cons rd_inss (.cons rd_End .nil))))
      rfl (by decide +kernel) (by decide +kernel) sm_agg) (fun _ => rfl)
theorem rd_blocks : Rd enc Try.prog w (Sm H) 32 (List Block) (fun l => [blockss l]) := Rd.slice Try.underlying32 (by decide +kernel) (by decide) (fun _ => ⟨rfl, rfl⟩) rd_Block sm_slice
theorem rd_Func : Rd enc Try.prog w (Sm H) 34 Func encFunc :=
  Rd.map (fun x => ⟨x.1, x.2.1, x.2.2.1⟩)
    (Rd.struct (fl := [(3, 1), (3, 1), (32, 1)]) Try.underlying34 (.cons rd_int (.cons rd_int (.cons rd_blocks .nil)))
      rfl (by decide +kernel) (by decide +kernel) sm_agg) (fun _ => rfl)
theorem rd_funcs : Rd enc Try.prog w (Sm H) 22 (List Func) (fun l => [funcss l]) := Rd.slice Try.underlying22 (by decide +kernel) (by decide) (fun _ => ⟨rfl, rfl⟩) rd_Func sm_slice
theorem rd_Module : Rd enc Try.prog w (Sm H) 24 Module encMod :=
  Rd.map (fun x => ⟨x.1⟩)
    (Rd.struct (fl := [(22, 1)]) Try.underlying24 (.cons rd_funcs .nil)
      rfl (by decide +kernel) (by decide +kernel) sm_agg) (fun _ => rfl)
end
theorem small_of {H : Type} {ds gs : List (DataW H)} (hk : Rows.uptoSmall H (ds ++ gs) = true) : ∀ d ∈ ds, Sm H d := by
  have h := of_decide_eq_true hk
  exact fun d hd => bulk_all h d (List.mem_append_left _ hd)
end Go.Proofs.Ytmanpbgaihdalaa
namespace Go.Proofs.Ytmanpbgaihdalaa
open Go Dv
set_option maxRecDepth 10000
set_option linter.unusedSimpArgs false
theorem isAt_mono {is js : List Bool} (h : leL is js) {n : Int} (k : isAt is n = true) : isAt js n = true := h _ k
theorem callsB_mono {b : Block} {is js : List Bool} (h : leL is js) (k : callsB b is = true) : callsB b js = true := by
  unfold callsB at k ⊢
  rw [List.any_eq_true] at k ⊢
  obtain ⟨x, hx, hk⟩ := k
  refine ⟨x, hx, ?_⟩
  cases e : decide (x.op = 11) with
  | false => rw [e] at hk; exact hk
  | true => rw [e] at hk; exact isAt_mono h hk
theorem outB_mono (f : Func) (b : Block) (is js : List Bool) (h : leL is js) (k : outB f b is = true) : outB f b js = true := by
  unfold outB at k ⊢
  simp only [Bool.or_eq_true] at k ⊢
  rcases k with k | k | k | k
  · exact .inl k
  · exact .inr (.inl k)
  · refine .inr (.inr (.inl ?_))
    cases e : decide (b.fin.kind = 4) with
    | false => rw [e] at k; exact k
    | true =>
      rw [e] at k
      simp only [cond_true] at k ⊢
      cases e2 : isAt is b.fin.f with
      | false => rw [e2] at k; cases k
      | true => rw [e2] at k; rw [isAt_mono h e2]; exact k
  · exact .inr (.inr (.inr (callsB_mono h k)))
theorem doB_mono (ops : List Int) (f : Func) (b : Block) (is js : List Bool) (h : leL is js) (k : doB ops f b is = true) : doB ops f b js = true := by
  unfold doB at k ⊢
  simp only [Bool.or_eq_true] at k ⊢
  rcases k with k | k | k
  · left
    cases e : decide (b.fin.kind = 4) with
    | false => rw [e] at k; exact k
    | true => rw [e] at k; exact isAt_mono h k
  · exact .inr (.inl (callsB_mono h k))
  · exact .inr (.inr k)
def outL (m : Module) : List Bool := spreadL outB m
def doL (ops : List Int) (m : Module) : List Bool := spreadL (doB ops) m
abbrev FOb (f : FuncId) (args : List AV) (l : List Bool) : Prop := FO Try.prog f args 1 l.length (fun i => [.bool (l.getD i false)])
theorem okB_of {m : Module} (h : rightB m = true) {n i : Nat} (hn : n < m.funcs.length) (hi : i < (m.funcs.getD n default).blocks.length) : OkB m.funcs.length (m.funcs.getD n default).blocks.length ((m.funcs.getD n default).blocks.getD i default) := blk_ok (func_blocks (right_funcs h hn) hi)
theorem c_tOut (m : Module) : FOb 17 [.agg (encMod m)] (outL m) := by
  refine FO_intro tok Try.func17 rfl (by decide +kernel) (Nat.le_of_ble_eq_true rfl) ?_
  (repeat' first | refine AWp_seq ?_ | (refine AWp_reg tok (by rfl) ?_; conv => whnf))
  refine .inl ⟨_, _, _, uG (QC.fo (rd := []) (c_spread (g := 67) (cap := []) outB m rfl (fun h n hn i hi is hl => c_Out1 _ _ is (okB_of h hn hi) hl) outB_mono) (Ress.imms rfl) (.inl rfl) rfl), ?_⟩
  conv => whnf
  (repeat' (refine AWp_ret ?_; conv => whnf))
  exact ⟨_, rfl, .rs rfl (Nat.le_refl _) rfl (fun _ _ => rfl)⟩
theorem c_Index (l : List Int) (n : Int) : FC Try.prog 138 [ints l, iv n] (iv (idxG (fun y => decide (n = y)) l)) := by
  refine FC_intro tok Try.func138 rfl (by decide +kernel) (Nat.le_of_ble_eq_true rfl) ?_
  refine AWp_facts 0 (fun hl => ?_)
  have hl0 : l.length ≤ maxL := hl.1
  (repeat' first | refine AWp_seq ?_ | (refine AWp_reg tok (by rfl) ?_; conv => whnf) | refine AWp_block ?_)
  refine AWp_loop (fun i : Nat => mkS [(0, ints l), (1, iv n), (7, iv l.length), (8, iv i)] [])
    (fun i => i ≤ l.length ∧ ∀ j, j < i → decide (n = l.getD j 0) = false) (fun i => l.length - i) 0 ⟨Nat.zero_le _, by simp⟩ ?_ ?_
  · refine Weak.list [] rfl (by rfl) ?_ .nil
    ((repeat' first | exact TLes.nil | refine TLes.cons (TLe.eq rfl) ?_); skip)
  rintro i ⟨hi2, hc⟩
  ((repeat' first | refine AWp_seq ?_ | (refine AWp_reg tok (by rfl) ?_; conv => whnf) | refine AWp_block ?_ | (refine AWp_skip ?_; conv => whnf) | (refine AWp_exit ?_; conv => whnf) | (refine AWp_ret ?_; conv => whnf) | refine AWp_cond rfl (fun hb => ?_) (fun hb => ?_) | (refine @And.intro (underG _ _ _ _) _ ?_ ?_; rotate_left; (conv => whnf); rotate_right)); all_goals (try ((guard_target = underG _ _ _ _); refine underG_none ?_; (all_goals (try simp only [underG, true_and, and_true, Bool.cond_true_left, Bool.cond_false_left, Bool.cond_true_right, Bool.cond_false_right, Bool.or_eq_true, Bool.and_eq_true, Bool.or_eq_false_iff, Bool.and_eq_false_iff, cond_true, cond_false, Bool.not_eq_eq_eq_not, Bool.not_true, Bool.not_false, decide_eq_true_eq, decide_eq_false_iff_not, Int.toNat_natCast, Nat.zero_add, Decidable.not_not, maxL, inn_iff] at *)); all_goals omega)))
  · have hlt : i < l.length := by rename_i h; simp only [underG, true_and, and_true, Bool.cond_true_left, Bool.cond_false_left, Bool.cond_true_right, Bool.cond_false_right, Bool.or_eq_true, Bool.and_eq_true, Bool.or_eq_false_iff, Bool.and_eq_false_iff, cond_true, cond_false, Bool.not_eq_eq_eq_not, Bool.not_true, Bool.not_false, decide_eq_true_eq, decide_eq_false_iff_not, Int.toNat_natCast, Nat.zero_add, Decidable.not_not, maxL, inn_iff] at *; omega
    refine ⟨_, rfl, Rel.int ?_⟩
    exact (idxG_at 0 hlt hc (by simpa using hb)).symm
  · have hlt : i < l.length := by rename_i h; simp only [underG, true_and, and_true, Bool.cond_true_left, Bool.cond_false_left, Bool.cond_true_right, Bool.cond_false_right, Bool.or_eq_true, Bool.and_eq_true, Bool.or_eq_false_iff, Bool.and_eq_false_iff, cond_true, cond_false, Bool.not_eq_eq_eq_not, Bool.not_true, Bool.not_false, decide_eq_true_eq, decide_eq_false_iff_not, Int.toNat_natCast, Nat.zero_add, Decidable.not_not, maxL, inn_iff] at *; omega
    refine ⟨i + 1, ⟨hlt, fun j hj => ?_⟩, by omega, ?_⟩
    · by_cases e : j = i
      · subst e; simpa using hb
      · exact hc j (by omega)
    refine Weak.list [] rfl (by rfl) ?_ .nil
    ((repeat' first | exact TLes.nil | refine TLes.cons (TLe.eq rfl) ?_ | refine TLes.cons (TLe.int ?_) ?_); (all_goals first | ((try (simp only [underG, true_and, and_true, Bool.cond_true_left, Bool.cond_false_left, Bool.cond_true_right, Bool.cond_false_right, Bool.or_eq_true, Bool.and_eq_true, Bool.or_eq_false_iff, Bool.and_eq_false_iff, cond_true, cond_false, Bool.not_eq_eq_eq_not, Bool.not_true, Bool.not_false, decide_eq_true_eq, decide_eq_false_iff_not, Int.toNat_natCast, Nat.zero_add, Decidable.not_not, maxL, inn_iff] at *)); exact wrap64 (by omega) (by omega)) | skip))
  · refine ⟨_, rfl, Rel.int ?_⟩
    exact (idxG_none 0 (fun j hj => hc j (by simp only [underG, true_and, and_true, Bool.cond_true_left, Bool.cond_false_left, Bool.cond_true_right, Bool.cond_false_right, Bool.or_eq_true, Bool.and_eq_true, Bool.or_eq_false_iff, Bool.and_eq_false_iff, cond_true, cond_false, Bool.not_eq_eq_eq_not, Bool.not_true, Bool.not_false, decide_eq_true_eq, decide_eq_false_iff_not, Int.toNat_natCast, Nat.zero_add, Decidable.not_not, maxL, inn_iff] at *; omega))).symm
theorem c_Contains (l : List Int) (n : Int) : FC Try.prog 113 [ints l, iv n] (.bool (hasB l n)) := by
  refine FC_intro tok Try.func113 rfl (by decide +kernel) (Nat.le_of_ble_eq_true rfl) ?_
  (repeat' first | refine AWp_seq ?_ | (refine AWp_reg tok (by rfl) ?_; conv => whnf))
  refine .inl ⟨_, _, _, uG (QC.fc (c_Index l n) rfl), ?_⟩
  conv => whnf
  (repeat' (refine AWp_ret ?_; conv => whnf))
  refine ⟨_, rfl, Rel.bool ?_⟩
  unfold hasB; rw [← idxG_any]
theorem c_do11 (ops : List Int) (x : Ins) : FC Try.prog 112 [.agg (encIns x), .ip [ints ops]] (.bool (hasB ops x.op)) := by
  refine FC_intro tok Try.func112 rfl (by decide +kernel) (Nat.le_of_ble_eq_true rfl) ?_
  (repeat' first | refine AWp_seq ?_ | (refine AWp_reg tok (by rfl) ?_; conv => whnf))
  refine .inl ⟨_, _, _, uG (QC.fc (c_Contains ops x.op) rfl), ?_⟩
  conv => whnf
  (repeat' (refine AWp_ret ?_; conv => whnf))
  exact ⟨_, rfl, Rel.imm rfl⟩
theorem c_do1 (ops : List Int) (f : Func) (b : Block) (is : List Bool) {nf : Nat} (h : OkB nf f.blocks.length b) (hn : is.length = nf) : FC Try.prog 111 [.agg (encFunc f), .agg (encBlock b), bools is, .ip [ints ops]] (.bool (doB ops f b is)) := by
  refine FC_intro tok Try.func111 rfl (by decide +kernel) (Nat.le_of_ble_eq_true rfl) ?_
  have h1 := h.fn
  subst hn
  ((repeat' first | refine AWp_seq ?_ | (refine AWp_reg tok (by rfl) ?_; conv => whnf) | (refine @And.intro (underG _ _ _ _) _ ?_ ?_; rotate_left; (conv => whnf); rotate_right)); all_goals (try ((guard_target = underG _ _ _ _); ((refine underG_some ?_; intro hgd; (conv at hgd => whnf))); (all_goals (try simp only [underG, true_and, and_true, Bool.cond_true_left, Bool.cond_false_left, Bool.cond_true_right, Bool.cond_false_right, Bool.or_eq_true, Bool.and_eq_true, Bool.or_eq_false_iff, Bool.and_eq_false_iff, cond_true, cond_false, Bool.not_eq_eq_eq_not, Bool.not_true, Bool.not_false, decide_eq_true_eq, decide_eq_false_iff_not, Int.toNat_natCast, Nat.zero_add, Decidable.not_not, maxL, inn_iff] at *)); all_goals omega)))
  refine .inl ⟨_, _, _, uG (QC.fc (c_called b is h rfl) rfl), ?_⟩; conv => whnf
  (repeat' first | refine AWp_seq ?_ | (refine AWp_reg tok (by rfl) ?_; conv => whnf) | (refine AWp_skip ?_; conv => whnf) | (refine AWp_ret ?_; conv => whnf) | refine AWp_cond rfl (fun hb => ?_) (fun hb => ?_))
  · refine ⟨_, rfl, Rel.bool ?_⟩
    unfold doB isAt
    cases e : (bif decide (b.fin.kind = 4) then is.getD b.fin.f.toNat false else false)
    · rw [e] at hb; simp only [cond_false] at hb; rw [hb]; rfl
    · rfl
  · refine .inl ⟨_, _, _, uG (QC.fc (c_HasIns (g := 112) (cap := [.ip [ints ops]]) rfl (fun x => c_do11 ops x) b.ins) rfl), ?_⟩
    conv => whnf
    (repeat' (refine AWp_ret ?_; conv => whnf))
    refine ⟨_, rfl, Rel.bool ?_⟩
    unfold doB isAt
    cases e : (bif decide (b.fin.kind = 4) then is.getD b.fin.f.toNat false else false)
    · rw [e] at hb; simp only [cond_false] at hb; rw [hb]; rfl
    · rw [e] at hb; cases hb
theorem c_doing (m : Module) (ops : List Int) : FOb 69 [.agg (encMod m), ints ops] (doL ops m) := by
  refine FO_intro tok Try.func69 rfl (by decide +kernel) (Nat.le_of_ble_eq_true rfl) ?_
  (repeat' first | refine AWp_seq ?_ | (refine AWp_reg tok (by rfl) ?_; conv => whnf))
  refine .inl ⟨_, _, _, uG (QC.fo (rd := [(3, 0, 0)]) (c_spread (g := 111) (cap := [.ip [ints ops]]) (doB ops) m rfl (fun h n hn i hi is hl => c_do1 ops _ _ is (okB_of h hn hi) hl) (doB_mono ops)) (.cons (.imm rfl) (.cons (.fn (.cons (.ip rfl (memI_iff.1 rfl) Nat.zero_lt_one (Ress.imms rfl)) .nil)) .nil)) (.inr (fun _ _ => rfl)) rfl), ?_⟩
  conv => whnf
  (repeat' (refine AWp_ret ?_; conv => whnf))
  exact ⟨_, rfl, .rs rfl (Nat.le_refl _) rfl (fun _ _ => rfl)⟩
theorem c_Tells (m : Module) : FOb 18 [.agg (encMod m)] (doL [12, 13] m) := by
  refine FO_intro tok Try.func18 rfl (by decide +kernel) (Nat.le_of_ble_eq_true rfl) ?_
  (repeat' first | refine AWp_seq ?_ | (refine AWp_reg tok (by rfl) ?_; conv => whnf))
  refine .inl ⟨_, _, _, uG (QC.fo (rd := [(4, 0, 0)]) (c_doing m [12, 13]) (.cons (.imm rfl) (.cons (.row rfl (memI_iff.1 rfl) rfl rfl (fun i hi => ?_)) .nil)) (.inr (fun _ _ => rfl)) rfl), ?_⟩
  · match i, hi with
    | 0, _ => rfl
    | 1, _ => rfl
  conv => whnf
  (repeat' (refine AWp_ret ?_; conv => whnf))
  exact ⟨_, rfl, .rs rfl (Nat.le_refl _) rfl (fun _ _ => rfl)⟩
theorem c_Writes (m : Module) : FOb 19 [.agg (encMod m)] (doL [10] m) := by
  refine FO_intro tok Try.func19 rfl (by decide +kernel) (Nat.le_of_ble_eq_true rfl) ?_
  (repeat' first | refine AWp_seq ?_ | (refine AWp_reg tok (by rfl) ?_; conv => whnf))
  refine .inl ⟨_, _, _, uG (QC.fo (rd := [(4, 0, 0)]) (c_doing m [10]) (.cons (.imm rfl) (.cons (.row rfl (memI_iff.1 rfl) rfl rfl (fun i hi => ?_)) .nil)) (.inr (fun _ _ => rfl)) rfl), ?_⟩
  · match i, hi with
    | 0, _ => rfl
  conv => whnf
  (repeat' (refine AWp_ret ?_; conv => whnf))
  exact ⟨_, rfl, .rs rfl (Nat.le_refl _) rfl (fun _ _ => rfl)⟩
end Go.Proofs.Ytmanpbgaihdalaa
namespace Go.Proofs.Ytmanpbgaihdalaa
open Go Dv
set_option maxRecDepth 10000
set_option linter.unusedSimpArgs false
/-! What the reference's rounds keep. -/
structure Iv2 (len : Nat) (D : Nat → List Bool → Bool) (is : List Bool) (n : Nat) (js : List Bool) : Prop where
  sz : js.length = len
  be : Beneath len D js
  le : leL is js
  don : ∀ j, j < n → D j is = true → js.getD j false = true
theorem Iv2.set {len : Nat} {D : Nat → List Bool → Bool} {is js : List Bool} {n m : Nat} (h : Iv2 len D is n js) (hD : MonoD D) (hm : m < len) (hd : D m js = true) : Iv2 len D is n (js.set m true) := by
  have hs := h.sz
  refine ⟨by simp [hs], fun c hc i e => ?_, h.le.trans (leL_set _ _), fun j hj hd => leL_set _ _ j (h.don j hj hd)⟩
  rw [set_get (by omega), Bool.or_eq_true] at e
  rcases e with e | e
  · have : m = i := by simpa using e
    subst this
    exact hc.cl m hm (hD m js c (h.be c hc) hd)
  · exact h.be c hc i e
/-- From one round to the next. -/
structure Iv0 (len : Nat) (D : Nat → List Bool → Bool) (r : Nat) (is : List Bool) : Prop where
  sz : is.length = len
  be : Beneath len D is
  pr : Closed len D is ∨ r ≤ cnt is
theorem Iv0.next {len : Nat} {D : Nat → List Bool → Bool} {is js : List Bool} {r : Nat} (h0 : Iv0 len D r is) (h : Iv2 len D is len js) : Iv0 len D (r + 1) js := by
  refine ⟨h.sz, h.be, ?_⟩
  obtain ⟨h1, h2⟩ := cnt_mono (by rw [h0.sz, h.sz]) h.le
  by_cases hc : cnt js ≤ cnt is
  · have e := h2 hc
    left
    refine ⟨h.sz, fun n hn hd => ?_⟩
    exact h.don n hn (by rw [e]; exact hd)
  · rcases h0.pr with hcl | hcl
    · exfalso
      have e1 := h.be is hcl
      have := (cnt_mono (by rw [h0.sz, h.sz]) e1).1
      omega
    · right; omega
theorem Iv0.done {len : Nat} {D : Nat → List Bool → Bool} (hD : MonoD D) {is : List Bool} (h0 : Iv0 len D (len + 1) is) : is = lfp len D := by
  refine lfp_uniq hD ?_ h0.be
  rcases h0.pr with h | h
  · exact h
  · have := cnt_le (a := is); rw [h0.sz] at this; omega
theorem ruleOf_mono {does : Func → Block → List Bool → Bool} {m : Module} (hmono : ∀ f b, ∀ is js, leL is js → does f b is = true → does f b js = true) : MonoD (ruleOf does m) := fun n a b h k => by
  unfold ruleOf at k ⊢
  rw [List.any_eq_true] at k ⊢
  obtain ⟨x, hx, hk⟩ := k
  exact ⟨x, hx, hmono _ _ _ _ h hk⟩
theorem ruleOf_at {does : Func → Block → List Bool → Bool} {m : Module} {n i : Nat} {is : List Bool} (hi : i < (m.funcs.getD n default).blocks.length) (h : does (m.funcs.getD n default) ((m.funcs.getD n default).blocks.getD i default) is = true) : ruleOf does m n is = true := by
  unfold ruleOf
  rw [List.any_eq_true]
  exact ⟨_, by rw [getD_lt default hi]; exact List.getElem_mem hi, h⟩
theorem rep_beneath (len : Nat) (D : Nat → List Bool → Bool) : Beneath len D (List.replicate len false) := fun c _ i e => by
  exfalso; simp only [List.getD_eq_getElem?_getD, List.getElem?_replicate] at e; split at e <;> simp at e
def endO (f : Func) (b : Block) (is : List Bool) : Bool := bif bif decide (b.fin.kind = 5) then true else decide (b.fin.kind = 6) then true else bif bif decide (b.fin.kind = 4) then isAt is b.fin.f else false then !(f.blocks.getD b.fin.pad.toNat default).pad.all else false
def insO (x : Ins) (is : List Bool) : Bool := bif decide (x.op = 11) then isAt is x.f else false
theorem outB_of (f : Func) (b : Block) (is : List Bool) : outB f b is = (endO f b is || b.ins.any fun x => insO x is) := by
  unfold outB endO callsB insO
  cases decide (b.fin.kind = 5) <;> cases decide (b.fin.kind = 6) <;> cases decide (b.fin.kind = 4) <;> cases isAt is b.fin.f <;> simp
theorem insO_mono (x : Ins) (is js : List Bool) (h : leL is js) (k : insO x is = true) : insO x js = true := by
  unfold insO at *
  cases e : decide (x.op = 11) with
  | false => rw [e] at k; exact k
  | true => rw [e] at k; exact isAt_mono h k
theorem endO_mono (f : Func) (b : Block) (is js : List Bool) (h : leL is js) (k : endO f b is = true) : endO f b js = true := by
  unfold endO at *
  cases e1 : (bif decide (b.fin.kind = 5) then true else decide (b.fin.kind = 6)) with
  | true => rfl
  | false =>
    rw [e1] at k
    simp only [cond_false] at k ⊢
    cases e2 : decide (b.fin.kind = 4) with
    | false => rw [e2] at k; exact k
    | true =>
      rw [e2] at k
      simp only [cond_true] at k ⊢
      cases e3 : isAt is b.fin.f with
      | false => rw [e3] at k; cases k
      | true => rw [e3] at k; rw [isAt_mono h e3]; exact k
theorem c_rOut (m : Module) (hr : rightB m = true) : FOb 22 [.agg (encMod m)] (outL m) := by
  refine FO_intro tok Try.func22 rfl (by decide +kernel) (Nat.le_of_ble_eq_true rfl) ?_
  refine AWp_facts 0 (fun hl => ?_)
  have hl0 : m.funcs.length ≤ maxL := hl.1.1
  have hD : MonoD (ruleOf (outB) m) := ruleOf_mono (outB_mono)
  have hsp : outL m = lfp m.funcs.length (ruleOf (outB) m) := by simp [outL, spreadL, hr]
  rw [hsp]
  ((repeat' first | refine AWp_seq ?_ | (refine AWp_reg tok (by rfl) ?_; conv => whnf) | refine AWp_block ?_ | (refine @And.intro (underG _ _ _ _) _ ?_ ?_; rotate_left; (conv => whnf); rotate_right)); all_goals (try ((guard_target = underG _ _ _ _); refine underG_none ?_; (all_goals (try simp only [underG, true_and, and_true, Bool.cond_true_left, Bool.cond_false_left, Bool.cond_true_right, Bool.cond_false_right, Bool.or_eq_true, Bool.and_eq_true, Bool.or_eq_false_iff, Bool.and_eq_false_iff, cond_true, cond_false, Bool.not_eq_eq_eq_not, Bool.not_true, Bool.not_false, decide_eq_true_eq, decide_eq_false_iff_not, Int.toNat_natCast, Nat.zero_add, Decidable.not_not, maxL, inn_iff] at *)); all_goals omega)))
  refine AWp_loop (fun q : Nat × List Bool => mkS [(1, .bp (1, 0, 0) 0), (3, .rs (13, 0, 0) 1 0 m.funcs.length), (4, iv q.1)] [((1, 0, 0), boxed (encMod m)), ((13, 0, 0), .row true 1 m.funcs.length (fun i => [.bool (q.2.getD i false)]))])
    (fun q => q.1 ≤ m.funcs.length + 1 ∧ Iv0 m.funcs.length (ruleOf (outB) m) q.1 q.2) (fun q => m.funcs.length + 1 - q.1) (0, List.replicate m.funcs.length false)
      ⟨by simp, by simp, rep_beneath _ _, .inr (Nat.zero_le _)⟩ ?_ ?_
  · refine Weak.list [((1, 0, 0), .old (1, 0, 0), boxed (encMod m)), ((13, 0, 0), .old (13, 0, 0), .row true 1 m.funcs.length (fun i => [.bool ((List.replicate m.funcs.length false).getD i false)]))] rfl (by rfl) ?_ (.old rfl (BLe.refl _) (.old rfl (BLe.rowW (Nat.le_refl _) (fun z hz => ?_)) .nil))
    · ((repeat' first | exact TLes.nil | refine TLes.cons (TLe.eq rfl) ?_); skip)
    · exact Wks.of (by simp [List.getD_eq_getElem?_getD, List.getElem?_replicate]; split <;> rfl)
  rintro ⟨r, is⟩ ⟨hrl, h0⟩
  simp only at hrl h0 ⊢
  (repeat' ((fail_if_success (show AWp _ _ _ (Code.region 5 _ _) _ _)); first | refine AWp_seq ?_ | (refine AWp_reg tok (by rfl) ?_; conv => whnf) | refine AWp_block ?_ | (refine AWp_skip ?_; conv => whnf) | (refine AWp_exit ?_; conv => whnf) | (refine AWp_ret ?_; conv => whnf) | refine AWp_cond rfl (fun hb => ?_) (fun hb => ?_)))
  · have hrl2 : r ≤ m.funcs.length := by simp only [decide_eq_true_eq] at hb; omega
    clear hb
    (repeat' ((fail_if_success (show AWp _ _ _ (Code.region 2 _ _) _ _)); first | (refine AWp_reg tok (by rfl) ?_; conv => whnf) | refine AWp_block ?_))
    refine AWp_loop (fun q : Nat × List Bool => mkS [(1, .bp (1, 0, 0) 0), (3, .rs (13, 0, 0) 1 0 m.funcs.length), (4, iv r), (5, iv q.1)] [((1, 0, 0), boxed (encMod m)), ((13, 0, 0), .row true 1 m.funcs.length (fun i => [.bool (q.2.getD i false)]))])
      (fun q => q.1 ≤ m.funcs.length ∧ Iv2 m.funcs.length (ruleOf (outB) m) is q.1 q.2) (fun q => m.funcs.length - q.1) (0, is)
      ⟨Nat.zero_le _, h0.sz, h0.be, leL.refl _, fun j hj => absurd hj (Nat.not_lt_zero j)⟩ ?_ ?_
    · refine Weak.list [((1, 0, 0), .old (1, 0, 0), boxed (encMod m)), ((13, 0, 0), .old (13, 0, 0), .row true 1 m.funcs.length (fun i => [.bool (is.getD i false)]))] rfl (by rfl) ?_ (.old rfl (BLe.refl _) (.old rfl (BLe.refl _) .nil))
      ((repeat' first | exact TLes.nil | refine TLes.cons (TLe.eq rfl) ?_); skip)
    rintro ⟨n, js⟩ ⟨hn, hv⟩
    simp only at hn hv ⊢
    (repeat' ((fail_if_success (show AWp _ _ _ (Code.region 8 _ _) _ _)); first | refine AWp_seq ?_ | (refine AWp_reg tok (by rfl) ?_; conv => whnf) | refine AWp_block ?_ | (refine AWp_skip ?_; conv => whnf) | (refine AWp_exit ?_; conv => whnf) | refine AWp_cond rfl (fun hb => ?_) (fun hb => ?_)))
    · have hlt : n < m.funcs.length := by simp only [decide_eq_true_eq] at hb; omega
      have hnn : (n : Int).toNat = n := Int.toNat_natCast n
      clear hb
      have hbl : (m.funcs.getD n default).blocks.length ≤ 64 := by
        have := right_funcs hr hlt
        unfold funcB at this; rw [Bool.and_eq_true, decide_eq_true_eq] at this
        exact this.1.2.2.2.2.2.1
      ((repeat' ((fail_if_success (show AWp _ _ _ (Code.region 4 _ _) _ _)); first | refine AWp_seq ?_ | (refine AWp_reg tok (by rfl) ?_; conv => whnf) | refine AWp_block ?_ | (refine @And.intro (underG _ _ _ _) _ ?_ ?_; rotate_left; (conv => whnf); rotate_right))); all_goals (try ((guard_target = underG _ _ _ _); refine underG_none ?_; (all_goals (try simp only [underG, true_and, and_true, Bool.cond_true_left, Bool.cond_false_left, Bool.cond_true_right, Bool.cond_false_right, Bool.or_eq_true, Bool.and_eq_true, Bool.or_eq_false_iff, Bool.and_eq_false_iff, cond_true, cond_false, Bool.not_eq_eq_eq_not, Bool.not_true, Bool.not_false, decide_eq_true_eq, decide_eq_false_iff_not, Int.toNat_natCast, Nat.zero_add, Decidable.not_not, maxL, inn_iff] at *)); all_goals omega)))
      refine AWp_loop (fun q : Nat × List Bool => mkS [(1, .bp (1, 0, 0) 0), (3, .rs (13, 0, 0) 1 0 m.funcs.length), (4, iv r), (5, iv n), (6, .bp (6, 0, 0) 0), (7, iv q.1)] [((1, 0, 0), boxed (encMod m)), ((13, 0, 0), .row true 1 m.funcs.length (fun i => [.bool (q.2.getD i false)])), ((6, 0, 0), .row true 3 1 (fun _ => encFunc (m.funcs.getD n default)))])
        (fun q => q.1 ≤ (m.funcs.getD n default).blocks.length ∧ Iv2 m.funcs.length (ruleOf (outB) m) is n q.2 ∧ ∀ j, j < q.1 → outB (m.funcs.getD n default) ((m.funcs.getD n default).blocks.getD j default) is = true → q.2.getD n false = true) (fun q => (m.funcs.getD n default).blocks.length - q.1) (0, js)
        ⟨Nat.zero_le _, hv, fun j hj => absurd hj (Nat.not_lt_zero j)⟩ ?_ ?_
      · refine Weak.list [((1, 0, 0), .old (1, 0, 0), boxed (encMod m)), ((13, 0, 0), .old (13, 0, 0), .row true 1 m.funcs.length (fun i => [.bool (js.getD i false)])), ((6, 0, 0), .old (6, 0, 0), .row true 3 1 (fun _ => encFunc (m.funcs.getD n default)))] rfl (by rfl) ?_ (.old rfl (BLe.refl _) (.old rfl (BLe.refl _) (.old rfl (BLe.rowW (Nat.le_refl _) (fun z hz2 => Wks.of (match z, hz2 with | 0, _ => rfl))) .nil)))
        ((repeat' first | exact TLes.nil | refine TLes.cons (TLe.eq rfl) ?_); skip)
      clear hv js
      rintro ⟨i, js⟩ ⟨hi, hv, hdone⟩
      simp only at hi hv hdone ⊢
      (repeat' ((fail_if_success (show AWp _ _ _ (Code.region 12 _ _) _ _)); first | refine AWp_seq ?_ | (refine AWp_reg tok (by rfl) ?_; conv => whnf) | refine AWp_block ?_ | (refine AWp_skip ?_; conv => whnf) | (refine AWp_exit ?_; conv => whnf) | refine AWp_cond rfl (fun hb => ?_) (fun hb => ?_)))
      · have hlt2 : i < (m.funcs.getD n default).blocks.length := by simp only [decide_eq_true_eq] at hb; omega
        have hii : (i : Int).toNat = i := Int.toNat_natCast i
        clear hb
        have hok := okB_of hr hlt hlt2
        have hins : ((m.funcs.getD n default).blocks.getD i default).ins.length ≤ 64 := by
          have := func_blocks (right_funcs hr hlt) hlt2
          unfold blkB at this; rw [Bool.and_eq_true, decide_eq_true_eq] at this
          exact this.1.1
        have h1 := hok.fn
        have h2 := hok.pad
        have h3 := hok.ins
        have hsz := hv.sz
        ((repeat' ((fail_if_success (show AWp _ _ _ (Code.region 13 _ _) _ _)); first | refine AWp_seq ?_ | (refine AWp_reg tok (by rfl) ?_; conv => whnf) | (refine @And.intro (underG _ _ _ _) _ ?_ ?_; rotate_left; (conv => whnf); rotate_right))); all_goals (try ((guard_target = underG _ _ _ _); refine underG_none ?_; (all_goals (try simp only [underG, true_and, and_true, Bool.cond_true_left, Bool.cond_false_left, Bool.cond_true_right, Bool.cond_false_right, Bool.or_eq_true, Bool.and_eq_true, Bool.or_eq_false_iff, Bool.and_eq_false_iff, cond_true, cond_false, Bool.not_eq_eq_eq_not, Bool.not_true, Bool.not_false, decide_eq_true_eq, decide_eq_false_iff_not, Int.toNat_natCast, Nat.zero_add, Decidable.not_not, maxL, inn_iff] at *)); all_goals omega)))
        refine AWp_weak (Weak.list (tl := [(1, .bp (1, 0, 0) 0), (3, .rs (13, 0, 0) 1 0 m.funcs.length), (4, iv r), (5, iv n), (6, .bp (6, 0, 0) 0), (7, iv i), (8, .bp (8, 0, 0) 0)]) [((1, 0, 0), .old (1, 0, 0), boxed (encMod m)), ((13, 0, 0), .old (13, 0, 0), .row true 1 m.funcs.length (fun i => [.bool (js.getD i false)])), ((6, 0, 0), .old (6, 0, 0), .row true 3 1 (fun _ => encFunc (m.funcs.getD n default))), ((8, 0, 0), .old (8, 0, 0), .row true 14 1 (fun _ => encBlock ((m.funcs.getD n default).blocks.getD i default)))] rfl (by rfl) ?_ (.old rfl (BLe.refl _) (.old rfl (BLe.refl _) (.old rfl (BLe.refl _) (.old rfl (BLe.rowW (Nat.le_refl _) (fun z hz2 => Wks.of (match z, hz2 with | 0, _ => rfl))) .nil))))) ?_
        · ((repeat' first | exact TLes.nil | refine TLes.cons (TLe.eq rfl) ?_); skip)
        have hgen : ∃ f, m.funcs.getD n default = f := ⟨_, rfl⟩
        obtain ⟨f, hfe⟩ := hgen
        have hf2 : ∀ x, x = n → m.funcs.getD x default = f := fun x e => by rw [e]; exact hfe
        simp only [hfe] at *
        have hgen : ∃ b, f.blocks.getD i default = b := ⟨_, rfl⟩
        obtain ⟨b, hbe⟩ := hgen
        have hb2 : ∀ x, x = i → f.blocks.getD x default = b := fun x e => by rw [e]; exact hbe
        have hat : ∀ js, outB f b js = true → ruleOf (outB) m n js = true := fun js h => ruleOf_at (by rw [hf2 n rfl]; exact hlt2) (by rw [hf2 n rfl, hbe]; exact h)
        simp only [hbe] at *
        have hset : ∀ js : List Bool, js.length = m.funcs.length → (js.set n true).getD n false = true := fun js h => by rw [set_get (by omega)]; simp
        ((repeat' ((fail_if_success (show AWp _ _ _ (Code.region 6 _ _) _ _)); first | refine AWp_seq ?_ | (refine AWp_reg tok (by rfl) ?_; conv => whnf) | refine AWp_block ?_ | (refine AWp_skip ?_; conv => whnf) | refine AWp_cond rfl (fun hb => ?_) (fun hb => ?_) | (refine @And.intro (underG _ _ _ _) _ ?_ ?_; rotate_left; (conv => whnf); rotate_right))); all_goals (try ((guard_target = underG _ _ _ _); (first | refine underG_none ?_ | (refine underG_some ?_; intro hgd; (conv at hgd => whnf); (try simp (disch := omega) only [wrap64] at hgd))); (all_goals (try simp only [underG, true_and, and_true, Bool.cond_true_left, Bool.cond_false_left, Bool.cond_true_right, Bool.cond_false_right, Bool.or_eq_true, Bool.and_eq_true, Bool.or_eq_false_iff, Bool.and_eq_false_iff, cond_true, cond_false, Bool.not_eq_eq_eq_not, Bool.not_true, Bool.not_false, decide_eq_true_eq, decide_eq_false_iff_not, Int.toNat_natCast, Nat.zero_add, Decidable.not_not, maxL, inn_iff] at *)); all_goals omega)))
        · have hx : endO f b js = true := by simpa [endO, isAt] using hb
          have hv1 := hv.set hD hlt (hat js (by rw [outB_of, hx]; rfl))
          have hd1 : ∀ j, j < i → outB f (f.blocks.getD j default) is = true → (js.set n true).getD n false = true := fun _ _ _ => hset js hsz
          have he1 : endO f b is = true → (js.set n true).getD n false = true := fun _ => hset js hsz
          refine AWp_weak (Weak.list (tl := [(1, .bp (1, 0, 0) 0), (3, .rs (13, 0, 0) 1 0 m.funcs.length), (4, iv r), (5, iv n), (6, .bp (6, 0, 0) 0), (7, iv i), (8, .bp (8, 0, 0) 0), (9, iv 0)]) [((1, 0, 0), .old (1, 0, 0), boxed (encMod m)), ((13, 0, 0), .old (13, 0, 0), .row true 1 m.funcs.length (fun i => [.bool ((js.set n true).getD i false)])), ((6, 0, 0), .old (6, 0, 0), .row true 3 1 (fun _ => encFunc f)), ((8, 0, 0), .old (8, 0, 0), .row true 14 1 (fun _ => encBlock b))] rfl (by rfl) ?_ (.old rfl (BLe.refl _) (.old rfl (BLe.rowW (Nat.le_refl _) (fun z hz2 => Wks.of ?_)) (.old rfl (BLe.refl _) (.old rfl (BLe.refl _) .nil))))) ?_
          · ((repeat' first | exact TLes.nil | refine TLes.cons (TLe.eq rfl) ?_); skip)
          · exact upd_row' (fun b => [AV.bool b]) false js (by omega) (by simp) rfl z
          clear hv hdone hsz hb hx
          generalize js.set n true = js at hv1 hd1 he1 ⊢
          refine AWp_loop (fun q : Nat × List Bool => mkS [(1, .bp (1, 0, 0) 0), (3, .rs (13, 0, 0) 1 0 m.funcs.length), (4, iv r), (5, iv n), (6, .bp (6, 0, 0) 0), (7, iv i), (8, .bp (8, 0, 0) 0), (9, iv q.1)] [((1, 0, 0), boxed (encMod m)), ((13, 0, 0), .row true 1 m.funcs.length (fun i => [.bool (q.2.getD i false)])), ((6, 0, 0), .row true 3 1 (fun _ => encFunc f)), ((8, 0, 0), .row true 14 1 (fun _ => encBlock b))])
            (fun q => q.1 ≤ b.ins.length ∧ Iv2 m.funcs.length (ruleOf (outB) m) is n q.2 ∧ (∀ j, j < i → outB f (f.blocks.getD j default) is = true → q.2.getD n false = true) ∧ (endO f b is = true → q.2.getD n false = true) ∧ ∀ j, j < q.1 → insO (b.ins.getD j default) is = true → q.2.getD n false = true)
            (fun q => b.ins.length - q.1) (0, js) ⟨Nat.zero_le _, hv1, hd1, he1, fun j hj => absurd hj (Nat.not_lt_zero j)⟩ ?_ ?_
          · refine Weak.list [((1, 0, 0), .old (1, 0, 0), boxed (encMod m)), ((13, 0, 0), .old (13, 0, 0), .row true 1 m.funcs.length (fun i => [.bool (js.getD i false)])), ((6, 0, 0), .old (6, 0, 0), .row true 3 1 (fun _ => encFunc f)), ((8, 0, 0), .old (8, 0, 0), .row true 14 1 (fun _ => encBlock b))] rfl (by rfl) ?_ (.old rfl (BLe.refl _) (.old rfl (BLe.refl _) (.old rfl (BLe.refl _) (.old rfl (BLe.refl _) .nil))))
            ((repeat' first | exact TLes.nil | refine TLes.cons (TLe.eq rfl) ?_); skip)
          clear hv1 hd1 he1 js
          rintro ⟨k, js⟩ ⟨hk, hv, hd, he, hin⟩
          simp only at hk hv hd he hin ⊢
          have hsz := hv.sz
          have hkk : (k : Int).toNat = k := Int.toNat_natCast k
          (repeat' ((fail_if_success (show AWp _ _ _ (Code.region 18 _ _) _ _)); first | refine AWp_seq ?_ | (refine AWp_reg tok (by rfl) ?_; conv => whnf) | refine AWp_block ?_ | (refine AWp_skip ?_; conv => whnf) | (refine AWp_exit ?_; conv => whnf) | refine AWp_cond rfl (fun hb => ?_) (fun hb => ?_)))
          · have hk2 : k < b.ins.length := by simp only [decide_eq_true_eq] at hb; omega
            have hop := h3 k hk2
            clear hb
            ((repeat' first | (refine AWp_reg tok (by rfl) ?_; conv => whnf) | (refine AWp_skip ?_; conv => whnf) | refine AWp_cond rfl (fun hb => ?_) (fun hb => ?_) | (refine @And.intro (underG _ _ _ _) _ ?_ ?_; rotate_left; (conv => whnf); rotate_right)); all_goals (try ((guard_target = underG _ _ _ _); (first | refine underG_none ?_ | (refine underG_some ?_; intro hgd; (conv at hgd => whnf))); (all_goals (try simp only [underG, true_and, and_true, Bool.cond_true_left, Bool.cond_false_left, Bool.cond_true_right, Bool.cond_false_right, Bool.or_eq_true, Bool.and_eq_true, Bool.or_eq_false_iff, Bool.and_eq_false_iff, cond_true, cond_false, Bool.not_eq_eq_eq_not, Bool.not_true, Bool.not_false, decide_eq_true_eq, decide_eq_false_iff_not, Int.toNat_natCast, Nat.zero_add, Decidable.not_not, maxL, inn_iff] at *)); all_goals omega)))
            skip
            · have hx : insO (b.ins.getD k default) js = true := by simpa [insO, isAt] using hb
              refine ⟨(k + 1, js.set n true), ⟨by simp; omega, hv.set hD hlt (hat js ?_), fun _ _ _ => hset js hsz, fun _ => hset js hsz, fun _ _ _ => hset js hsz⟩, by simp; omega, ?_⟩
              · rw [outB_of, Bool.or_eq_true, List.any_eq_true]
                exact .inr ⟨_, by rw [getD_lt default hk2]; exact List.getElem_mem hk2, hx⟩
              refine Weak.list [((1, 0, 0), .old (1, 0, 0), boxed (encMod m)), ((13, 0, 0), .old (13, 0, 0), .row true 1 m.funcs.length (fun i => [.bool ((js.set n true).getD i false)])), ((6, 0, 0), .old (6, 0, 0), .row true 3 1 (fun _ => encFunc f)), ((8, 0, 0), .old (8, 0, 0), .row true 14 1 (fun _ => encBlock b))] rfl (by rfl) ?_ (.old rfl (BLe.refl _) (.old rfl (BLe.rowW (Nat.le_refl _) (fun z hz2 => Wks.of ?_)) (.old rfl (BLe.refl _) (.old rfl (BLe.refl _) .nil))))
              · ((repeat' first | exact TLes.nil | refine TLes.cons (TLe.eq rfl) ?_ | refine TLes.cons (TLe.int ?_) ?_); (all_goals first | ((try (simp only [underG, true_and, and_true, Bool.cond_true_left, Bool.cond_false_left, Bool.cond_true_right, Bool.cond_false_right, Bool.or_eq_true, Bool.and_eq_true, Bool.or_eq_false_iff, Bool.and_eq_false_iff, cond_true, cond_false, Bool.not_eq_eq_eq_not, Bool.not_true, Bool.not_false, decide_eq_true_eq, decide_eq_false_iff_not, Int.toNat_natCast, Nat.zero_add, Decidable.not_not, maxL, inn_iff] at *)); exact wrap64 (by omega) (by omega)) | skip))
              · exact upd_row' (fun b => [AV.bool b]) false js (by omega) (by simp) rfl z
            · have hx : insO (b.ins.getD k default) js = false := by simpa [insO, isAt] using hb
              refine ⟨(k + 1, js), ⟨by simp; omega, hv, hd, he, fun j hj h => ?_⟩, by simp; omega, ?_⟩
              · by_cases e : j = k
                · subst e
                  have := insO_mono (b.ins.getD j default) is js hv.le h
                  rw [hx] at this; cases this
                · exact hin j (by simp at hj; omega) h
              refine Weak.list [((1, 0, 0), .old (1, 0, 0), boxed (encMod m)), ((13, 0, 0), .old (13, 0, 0), .row true 1 m.funcs.length (fun i => [.bool (js.getD i false)])), ((6, 0, 0), .old (6, 0, 0), .row true 3 1 (fun _ => encFunc f)), ((8, 0, 0), .old (8, 0, 0), .row true 14 1 (fun _ => encBlock b))] rfl (by rfl) ?_ (.old rfl (BLe.refl _) (.old rfl (BLe.refl _) (.old rfl (BLe.refl _) (.old rfl (BLe.refl _) .nil))))
              ((repeat' first | exact TLes.nil | refine TLes.cons (TLe.eq rfl) ?_ | refine TLes.cons (TLe.int ?_) ?_); (all_goals first | ((try (simp only [underG, true_and, and_true, Bool.cond_true_left, Bool.cond_false_left, Bool.cond_true_right, Bool.cond_false_right, Bool.or_eq_true, Bool.and_eq_true, Bool.or_eq_false_iff, Bool.and_eq_false_iff, cond_true, cond_false, Bool.not_eq_eq_eq_not, Bool.not_true, Bool.not_false, decide_eq_true_eq, decide_eq_false_iff_not, Int.toNat_natCast, Nat.zero_add, Decidable.not_not, maxL, inn_iff] at *)); exact wrap64 (by omega) (by omega)) | skip))
          · have hk2 : k = b.ins.length := by simp only [decide_eq_false_iff_not] at hb; omega
            clear hb
            skip
            refine ⟨(i + 1, js), ⟨by simp; omega, hv, fun j hj h => ?_⟩, by simp; omega, ?_⟩
            · by_cases e : j = i
              · subst e
                rw [hb2 j rfl, outB_of, Bool.or_eq_true, List.any_eq_true] at h
                rcases h with h | ⟨x, hx, h⟩
                · exact he h
                · obtain ⟨q, hq, rfl⟩ := List.getElem_of_mem hx
                  exact hin q (by omega) (by rw [getD_lt default hq]; exact h)
              · exact hd j (by simp at hj; omega) h
            refine Weak.list [((1, 0, 0), .old (1, 0, 0), boxed (encMod m)), ((13, 0, 0), .old (13, 0, 0), .row true 1 m.funcs.length (fun i => [.bool (js.getD i false)])), ((6, 0, 0), .old (6, 0, 0), .row true 3 1 (fun _ => encFunc f))] rfl (by rfl) ?_ (.old rfl (BLe.refl _) (.old rfl (BLe.refl _) (.old rfl (BLe.refl _) .nil)))
            ((repeat' first | exact TLes.nil | refine TLes.cons (TLe.eq rfl) ?_ | refine TLes.cons (TLe.int ?_) ?_); (all_goals first | ((try (simp only [underG, true_and, and_true, Bool.cond_true_left, Bool.cond_false_left, Bool.cond_true_right, Bool.cond_false_right, Bool.or_eq_true, Bool.and_eq_true, Bool.or_eq_false_iff, Bool.and_eq_false_iff, cond_true, cond_false, Bool.not_eq_eq_eq_not, Bool.not_true, Bool.not_false, decide_eq_true_eq, decide_eq_false_iff_not, Int.toNat_natCast, Nat.zero_add, Decidable.not_not, maxL, inn_iff] at *)); exact wrap64 (by omega) (by omega)) | skip))
        · have hx : endO f b js = false := by simpa [endO, isAt] using hb
          have hv1 := hv
          have hd1 := hdone
          have he1 : endO f b is = true → js.getD n false = true := fun h => by
            have := endO_mono f b is js hv.le h
            rw [hx] at this; cases this
          refine AWp_weak (Weak.list (tl := [(1, .bp (1, 0, 0) 0), (3, .rs (13, 0, 0) 1 0 m.funcs.length), (4, iv r), (5, iv n), (6, .bp (6, 0, 0) 0), (7, iv i), (8, .bp (8, 0, 0) 0), (9, iv 0)]) [((1, 0, 0), .old (1, 0, 0), boxed (encMod m)), ((13, 0, 0), .old (13, 0, 0), .row true 1 m.funcs.length (fun i => [.bool (js.getD i false)])), ((6, 0, 0), .old (6, 0, 0), .row true 3 1 (fun _ => encFunc f)), ((8, 0, 0), .old (8, 0, 0), .row true 14 1 (fun _ => encBlock b))] rfl (by rfl) ?_ (.old rfl (BLe.refl _) (.old rfl (BLe.refl _) (.old rfl (BLe.refl _) (.old rfl (BLe.refl _) .nil))))) ?_
          · ((repeat' first | exact TLes.nil | refine TLes.cons (TLe.eq rfl) ?_); skip)
          clear hv hdone hsz hb hx
          refine AWp_loop (fun q : Nat × List Bool => mkS [(1, .bp (1, 0, 0) 0), (3, .rs (13, 0, 0) 1 0 m.funcs.length), (4, iv r), (5, iv n), (6, .bp (6, 0, 0) 0), (7, iv i), (8, .bp (8, 0, 0) 0), (9, iv q.1)] [((1, 0, 0), boxed (encMod m)), ((13, 0, 0), .row true 1 m.funcs.length (fun i => [.bool (q.2.getD i false)])), ((6, 0, 0), .row true 3 1 (fun _ => encFunc f)), ((8, 0, 0), .row true 14 1 (fun _ => encBlock b))])
            (fun q => q.1 ≤ b.ins.length ∧ Iv2 m.funcs.length (ruleOf (outB) m) is n q.2 ∧ (∀ j, j < i → outB f (f.blocks.getD j default) is = true → q.2.getD n false = true) ∧ (endO f b is = true → q.2.getD n false = true) ∧ ∀ j, j < q.1 → insO (b.ins.getD j default) is = true → q.2.getD n false = true)
            (fun q => b.ins.length - q.1) (0, js) ⟨Nat.zero_le _, hv1, hd1, he1, fun j hj => absurd hj (Nat.not_lt_zero j)⟩ ?_ ?_
          · refine Weak.list [((1, 0, 0), .old (1, 0, 0), boxed (encMod m)), ((13, 0, 0), .old (13, 0, 0), .row true 1 m.funcs.length (fun i => [.bool (js.getD i false)])), ((6, 0, 0), .old (6, 0, 0), .row true 3 1 (fun _ => encFunc f)), ((8, 0, 0), .old (8, 0, 0), .row true 14 1 (fun _ => encBlock b))] rfl (by rfl) ?_ (.old rfl (BLe.refl _) (.old rfl (BLe.refl _) (.old rfl (BLe.refl _) (.old rfl (BLe.refl _) .nil))))
            ((repeat' first | exact TLes.nil | refine TLes.cons (TLe.eq rfl) ?_); skip)
          clear hv1 hd1 he1 js
          rintro ⟨k, js⟩ ⟨hk, hv, hd, he, hin⟩
          simp only at hk hv hd he hin ⊢
          have hsz := hv.sz
          have hkk : (k : Int).toNat = k := Int.toNat_natCast k
          (repeat' ((fail_if_success (show AWp _ _ _ (Code.region 18 _ _) _ _)); first | refine AWp_seq ?_ | (refine AWp_reg tok (by rfl) ?_; conv => whnf) | refine AWp_block ?_ | (refine AWp_skip ?_; conv => whnf) | (refine AWp_exit ?_; conv => whnf) | refine AWp_cond rfl (fun hb => ?_) (fun hb => ?_)))
          · have hk2 : k < b.ins.length := by simp only [decide_eq_true_eq] at hb; omega
            have hop := h3 k hk2
            clear hb
            ((repeat' first | (refine AWp_reg tok (by rfl) ?_; conv => whnf) | (refine AWp_skip ?_; conv => whnf) | refine AWp_cond rfl (fun hb => ?_) (fun hb => ?_) | (refine @And.intro (underG _ _ _ _) _ ?_ ?_; rotate_left; (conv => whnf); rotate_right)); all_goals (try ((guard_target = underG _ _ _ _); (first | refine underG_none ?_ | (refine underG_some ?_; intro hgd; (conv at hgd => whnf))); (all_goals (try simp only [underG, true_and, and_true, Bool.cond_true_left, Bool.cond_false_left, Bool.cond_true_right, Bool.cond_false_right, Bool.or_eq_true, Bool.and_eq_true, Bool.or_eq_false_iff, Bool.and_eq_false_iff, cond_true, cond_false, Bool.not_eq_eq_eq_not, Bool.not_true, Bool.not_false, decide_eq_true_eq, decide_eq_false_iff_not, Int.toNat_natCast, Nat.zero_add, Decidable.not_not, maxL, inn_iff] at *)); all_goals omega)))
            skip
            · have hx : insO (b.ins.getD k default) js = true := by simpa [insO, isAt] using hb
              refine ⟨(k + 1, js.set n true), ⟨by simp; omega, hv.set hD hlt (hat js ?_), fun _ _ _ => hset js hsz, fun _ => hset js hsz, fun _ _ _ => hset js hsz⟩, by simp; omega, ?_⟩
              · rw [outB_of, Bool.or_eq_true, List.any_eq_true]
                exact .inr ⟨_, by rw [getD_lt default hk2]; exact List.getElem_mem hk2, hx⟩
              refine Weak.list [((1, 0, 0), .old (1, 0, 0), boxed (encMod m)), ((13, 0, 0), .old (13, 0, 0), .row true 1 m.funcs.length (fun i => [.bool ((js.set n true).getD i false)])), ((6, 0, 0), .old (6, 0, 0), .row true 3 1 (fun _ => encFunc f)), ((8, 0, 0), .old (8, 0, 0), .row true 14 1 (fun _ => encBlock b))] rfl (by rfl) ?_ (.old rfl (BLe.refl _) (.old rfl (BLe.rowW (Nat.le_refl _) (fun z hz2 => Wks.of ?_)) (.old rfl (BLe.refl _) (.old rfl (BLe.refl _) .nil))))
              · ((repeat' first | exact TLes.nil | refine TLes.cons (TLe.eq rfl) ?_ | refine TLes.cons (TLe.int ?_) ?_); (all_goals first | ((try (simp only [underG, true_and, and_true, Bool.cond_true_left, Bool.cond_false_left, Bool.cond_true_right, Bool.cond_false_right, Bool.or_eq_true, Bool.and_eq_true, Bool.or_eq_false_iff, Bool.and_eq_false_iff, cond_true, cond_false, Bool.not_eq_eq_eq_not, Bool.not_true, Bool.not_false, decide_eq_true_eq, decide_eq_false_iff_not, Int.toNat_natCast, Nat.zero_add, Decidable.not_not, maxL, inn_iff] at *)); exact wrap64 (by omega) (by omega)) | skip))
              · exact upd_row' (fun b => [AV.bool b]) false js (by omega) (by simp) rfl z
            · have hx : insO (b.ins.getD k default) js = false := by simpa [insO, isAt] using hb
              refine ⟨(k + 1, js), ⟨by simp; omega, hv, hd, he, fun j hj h => ?_⟩, by simp; omega, ?_⟩
              · by_cases e : j = k
                · subst e
                  have := insO_mono (b.ins.getD j default) is js hv.le h
                  rw [hx] at this; cases this
                · exact hin j (by simp at hj; omega) h
              refine Weak.list [((1, 0, 0), .old (1, 0, 0), boxed (encMod m)), ((13, 0, 0), .old (13, 0, 0), .row true 1 m.funcs.length (fun i => [.bool (js.getD i false)])), ((6, 0, 0), .old (6, 0, 0), .row true 3 1 (fun _ => encFunc f)), ((8, 0, 0), .old (8, 0, 0), .row true 14 1 (fun _ => encBlock b))] rfl (by rfl) ?_ (.old rfl (BLe.refl _) (.old rfl (BLe.refl _) (.old rfl (BLe.refl _) (.old rfl (BLe.refl _) .nil))))
              ((repeat' first | exact TLes.nil | refine TLes.cons (TLe.eq rfl) ?_ | refine TLes.cons (TLe.int ?_) ?_); (all_goals first | ((try (simp only [underG, true_and, and_true, Bool.cond_true_left, Bool.cond_false_left, Bool.cond_true_right, Bool.cond_false_right, Bool.or_eq_true, Bool.and_eq_true, Bool.or_eq_false_iff, Bool.and_eq_false_iff, cond_true, cond_false, Bool.not_eq_eq_eq_not, Bool.not_true, Bool.not_false, decide_eq_true_eq, decide_eq_false_iff_not, Int.toNat_natCast, Nat.zero_add, Decidable.not_not, maxL, inn_iff] at *)); exact wrap64 (by omega) (by omega)) | skip))
          · have hk2 : k = b.ins.length := by simp only [decide_eq_false_iff_not] at hb; omega
            clear hb
            skip
            refine ⟨(i + 1, js), ⟨by simp; omega, hv, fun j hj h => ?_⟩, by simp; omega, ?_⟩
            · by_cases e : j = i
              · subst e
                rw [hb2 j rfl, outB_of, Bool.or_eq_true, List.any_eq_true] at h
                rcases h with h | ⟨x, hx, h⟩
                · exact he h
                · obtain ⟨q, hq, rfl⟩ := List.getElem_of_mem hx
                  exact hin q (by omega) (by rw [getD_lt default hq]; exact h)
              · exact hd j (by simp at hj; omega) h
            refine Weak.list [((1, 0, 0), .old (1, 0, 0), boxed (encMod m)), ((13, 0, 0), .old (13, 0, 0), .row true 1 m.funcs.length (fun i => [.bool (js.getD i false)])), ((6, 0, 0), .old (6, 0, 0), .row true 3 1 (fun _ => encFunc f))] rfl (by rfl) ?_ (.old rfl (BLe.refl _) (.old rfl (BLe.refl _) (.old rfl (BLe.refl _) .nil)))
            ((repeat' first | exact TLes.nil | refine TLes.cons (TLe.eq rfl) ?_ | refine TLes.cons (TLe.int ?_) ?_); (all_goals first | ((try (simp only [underG, true_and, and_true, Bool.cond_true_left, Bool.cond_false_left, Bool.cond_true_right, Bool.cond_false_right, Bool.or_eq_true, Bool.and_eq_true, Bool.or_eq_false_iff, Bool.and_eq_false_iff, cond_true, cond_false, Bool.not_eq_eq_eq_not, Bool.not_true, Bool.not_false, decide_eq_true_eq, decide_eq_false_iff_not, Int.toNat_natCast, Nat.zero_add, Decidable.not_not, maxL, inn_iff] at *)); exact wrap64 (by omega) (by omega)) | skip))
      · have hi2 : i = (m.funcs.getD n default).blocks.length := by simp only [decide_eq_false_iff_not] at hb; omega
        refine ⟨(n + 1, js), ⟨by simp; omega, hv.sz, hv.be, hv.le, fun j hj hd => ?_⟩, by simp; omega, ?_⟩
        · by_cases e : j = n
          · subst e
            unfold ruleOf at hd
            rw [List.any_eq_true] at hd
            obtain ⟨x, hx, hk⟩ := hd
            obtain ⟨q, hq, rfl⟩ := List.getElem_of_mem hx
            exact hdone q (by omega) (by rw [getD_lt default hq]; exact hk)
          · exact hv.don j (by simp at hj; omega) hd
        refine Weak.list [((1, 0, 0), .old (1, 0, 0), boxed (encMod m)), ((13, 0, 0), .old (13, 0, 0), .row true 1 m.funcs.length (fun i => [.bool (js.getD i false)]))] rfl (by rfl) ?_ (.old rfl (BLe.refl _) (.old rfl (BLe.refl _) .nil))
        ((repeat' first | exact TLes.nil | refine TLes.cons (TLe.eq rfl) ?_ | refine TLes.cons (TLe.int ?_) ?_); (all_goals first | ((try (simp only [underG, true_and, and_true, Bool.cond_true_left, Bool.cond_false_left, Bool.cond_true_right, Bool.cond_false_right, Bool.or_eq_true, Bool.and_eq_true, Bool.or_eq_false_iff, Bool.and_eq_false_iff, cond_true, cond_false, Bool.not_eq_eq_eq_not, Bool.not_true, Bool.not_false, decide_eq_true_eq, decide_eq_false_iff_not, Int.toNat_natCast, Nat.zero_add, Decidable.not_not, maxL, inn_iff] at *)); exact wrap64 (by omega) (by omega)) | skip))
    · have hn2 : n = m.funcs.length := by simp only [decide_eq_false_iff_not] at hb; omega
      subst hn2
      refine ⟨(r + 1, js), ⟨by simp; omega, h0.next hv⟩, by simp; omega, ?_⟩
      refine Weak.list [((1, 0, 0), .old (1, 0, 0), boxed (encMod m)), ((13, 0, 0), .old (13, 0, 0), .row true 1 m.funcs.length (fun i => [.bool (js.getD i false)]))] rfl (by rfl) ?_ (.old rfl (BLe.refl _) (.old rfl (BLe.refl _) .nil))
      ((repeat' first | exact TLes.nil | refine TLes.cons (TLe.eq rfl) ?_ | refine TLes.cons (TLe.int ?_) ?_); (all_goals first | ((try (simp only [underG, true_and, and_true, Bool.cond_true_left, Bool.cond_false_left, Bool.cond_true_right, Bool.cond_false_right, Bool.or_eq_true, Bool.and_eq_true, Bool.or_eq_false_iff, Bool.and_eq_false_iff, cond_true, cond_false, Bool.not_eq_eq_eq_not, Bool.not_true, Bool.not_false, decide_eq_true_eq, decide_eq_false_iff_not, Int.toNat_natCast, Nat.zero_add, Decidable.not_not, maxL, inn_iff] at *)); exact wrap64 (by omega) (by omega)) | skip))
  · have hr2 : r = m.funcs.length + 1 := by simp only [decide_eq_false_iff_not] at hb; omega
    subst hr2
    have he := h0.done hD
    refine ⟨_, rfl, .rs rfl (Nat.le_refl _) ?_ (fun _ _ => ?_)⟩
    · rw [← he, h0.sz]
    · rw [← he]
end Go.Proofs.Ytmanpbgaihdalaa
namespace Go.Proofs.Ytmanpbgaihdalaa
open Go Dv
set_option maxRecDepth 10000
set_option linter.unusedSimpArgs false
theorem c_Has (l : List Int) (n : Int) : FC Try.prog 71 [ints l, iv n] (.bool (hasB l n)) := by
  refine FC_intro tok Try.func71 rfl (by decide +kernel) (Nat.le_of_ble_eq_true rfl) ?_
  refine AWp_facts 0 (fun hl => ?_)
  have hl0 : l.length ≤ maxL := hl.1
  (repeat' first | refine AWp_seq ?_ | (refine AWp_reg tok (by rfl) ?_; conv => whnf) | refine AWp_block ?_)
  refine AWp_loop (fun i : Nat => mkS [(0, ints l), (1, iv n), (5, iv i)] [])
    (fun i => i ≤ l.length ∧ ∀ j, j < i → decide (n = l.getD j 0) = false) (fun i => l.length - i) 0 ⟨Nat.zero_le _, by simp⟩ ?_ ?_
  · refine Weak.list [] rfl (by rfl) ?_ .nil
    ((repeat' first | exact TLes.nil | refine TLes.cons (TLe.eq rfl) ?_); skip)
  rintro i ⟨hi2, hc⟩
  ((repeat' first | refine AWp_seq ?_ | (refine AWp_reg tok (by rfl) ?_; conv => whnf) | refine AWp_block ?_ | (refine AWp_skip ?_; conv => whnf) | (refine AWp_exit ?_; conv => whnf) | (refine AWp_ret ?_; conv => whnf) | refine AWp_cond rfl (fun hb => ?_) (fun hb => ?_) | (refine @And.intro (underG _ _ _ _) _ ?_ ?_; rotate_left; (conv => whnf); rotate_right)); all_goals (try ((guard_target = underG _ _ _ _); refine underG_none ?_; (all_goals (try simp only [underG, true_and, and_true, Bool.cond_true_left, Bool.cond_false_left, Bool.cond_true_right, Bool.cond_false_right, Bool.or_eq_true, Bool.and_eq_true, Bool.or_eq_false_iff, Bool.and_eq_false_iff, cond_true, cond_false, Bool.not_eq_eq_eq_not, Bool.not_true, Bool.not_false, decide_eq_true_eq, decide_eq_false_iff_not, Int.toNat_natCast, Nat.zero_add, Decidable.not_not, maxL, inn_iff] at *)); all_goals omega)))
  · have hlt : i < l.length := by rename_i h; simp only [underG, true_and, and_true, Bool.cond_true_left, Bool.cond_false_left, Bool.cond_true_right, Bool.cond_false_right, Bool.or_eq_true, Bool.and_eq_true, Bool.or_eq_false_iff, Bool.and_eq_false_iff, cond_true, cond_false, Bool.not_eq_eq_eq_not, Bool.not_true, Bool.not_false, decide_eq_true_eq, decide_eq_false_iff_not, Int.toNat_natCast, Nat.zero_add, Decidable.not_not, maxL, inn_iff] at *; omega
    refine ⟨_, rfl, Rel.bool ?_⟩
    unfold hasB
    symm; rw [List.any_eq_true]
    exact ⟨l.getD i 0, by rw [getD_lt 0 hlt]; exact List.getElem_mem hlt, by simp at hb; simp [hb]⟩
  · have hlt : i < l.length := by rename_i h; simp only [underG, true_and, and_true, Bool.cond_true_left, Bool.cond_false_left, Bool.cond_true_right, Bool.cond_false_right, Bool.or_eq_true, Bool.and_eq_true, Bool.or_eq_false_iff, Bool.and_eq_false_iff, cond_true, cond_false, Bool.not_eq_eq_eq_not, Bool.not_true, Bool.not_false, decide_eq_true_eq, decide_eq_false_iff_not, Int.toNat_natCast, Nat.zero_add, Decidable.not_not, maxL, inn_iff] at *; omega
    refine ⟨i + 1, ⟨hlt, fun j hj => ?_⟩, by omega, ?_⟩
    · by_cases e : j = i
      · subst e; simp at hb ⊢; exact fun e => hb e.symm
      · exact hc j (by omega)
    refine Weak.list [] rfl (by rfl) ?_ .nil
    ((repeat' first | exact TLes.nil | refine TLes.cons (TLe.eq rfl) ?_ | refine TLes.cons (TLe.int ?_) ?_); (all_goals first | ((try (simp only [underG, true_and, and_true, Bool.cond_true_left, Bool.cond_false_left, Bool.cond_true_right, Bool.cond_false_right, Bool.or_eq_true, Bool.and_eq_true, Bool.or_eq_false_iff, Bool.and_eq_false_iff, cond_true, cond_false, Bool.not_eq_eq_eq_not, Bool.not_true, Bool.not_false, decide_eq_true_eq, decide_eq_false_iff_not, Int.toNat_natCast, Nat.zero_add, Decidable.not_not, maxL, inn_iff] at *)); exact wrap64 (by omega) (by omega)) | skip))
  · refine ⟨_, rfl, Rel.bool ?_⟩
    unfold hasB
    symm; rw [List.any_eq_false]
    intro x hx
    obtain ⟨j, hj, rfl⟩ := List.getElem_of_mem hx
    have := hc j (by simp only [underG, true_and, and_true, Bool.cond_true_left, Bool.cond_false_left, Bool.cond_true_right, Bool.cond_false_right, Bool.or_eq_true, Bool.and_eq_true, Bool.or_eq_false_iff, Bool.and_eq_false_iff, cond_true, cond_false, Bool.not_eq_eq_eq_not, Bool.not_true, Bool.not_false, decide_eq_true_eq, decide_eq_false_iff_not, Int.toNat_natCast, Nat.zero_add, Decidable.not_not, maxL, inn_iff] at *; omega)
    rw [getD_lt 0 hj] at this; simp at this ⊢; exact this
def endD (_ : Func) (b : Block) (is : List Bool) : Bool := bif decide (b.fin.kind = 4) then isAt is b.fin.f else false
def insD (ops : List Int) (x : Ins) (is : List Bool) : Bool := bif hasB ops x.op then true else bif decide (x.op = 11) then isAt is x.f else false
theorem doB_of (f : Func) (b : Block) (is : List Bool) {ops : List Int} : doB ops f b is = (endD f b is || b.ins.any fun x => insD ops x is) := by
  unfold doB endD callsB insD
  cases (bif decide (b.fin.kind = 4) then isAt is b.fin.f else false) with
  | true => rfl
  | false =>
    rw [Bool.false_or, Bool.false_or, Bool.eq_iff_iff]
    simp only [Bool.or_eq_true, List.any_eq_true]
    constructor
    · rintro (⟨x, hx, h⟩ | ⟨x, hx, h⟩)
      · refine ⟨x, hx, ?_⟩
        cases hasB ops x.op
        · exact h
        · rfl
      · exact ⟨x, hx, by rw [h]; rfl⟩
    · rintro ⟨x, hx, h⟩
      cases e : hasB ops x.op
      · rw [e] at h; exact .inl ⟨x, hx, h⟩
      · exact .inr ⟨x, hx, e⟩
theorem endD_mono (f : Func) (b : Block) (is js : List Bool) (h : leL is js) (k : endD f b is = true) : endD f b js = true := by
  unfold endD at *
  cases e : decide (b.fin.kind = 4) with
  | false => rw [e] at k; exact k
  | true => rw [e] at k; exact isAt_mono h k
theorem insD_mono (ops : List Int) (x : Ins) (is js : List Bool) (h : leL is js) (k : insD ops x is = true) : insD ops x js = true := by
  unfold insD at *
  cases e0 : hasB ops x.op with
  | true => rfl
  | false =>
    rw [e0] at k
    simp only [cond_false] at k ⊢
    cases e : decide (x.op = 11) with
    | false => rw [e] at k; exact k
    | true => rw [e] at k; exact isAt_mono h k
theorem c_rDoes (m : Module) (ops : List Int) (hr : rightB m = true) : FOb 23 [.agg (encMod m), ints ops] (doL ops m) := by
  refine FO_intro tok Try.func23 rfl (by decide +kernel) (Nat.le_of_ble_eq_true rfl) ?_
  refine AWp_facts 0 (fun hl => ?_)
  have hl0 : m.funcs.length ≤ maxL := hl.1.1
  have hD : MonoD (ruleOf (doB ops) m) := ruleOf_mono (doB_mono ops)
  have hsp : doL ops m = lfp m.funcs.length (ruleOf (doB ops) m) := by simp [doL, spreadL, hr]
  rw [hsp]
  ((repeat' first | refine AWp_seq ?_ | (refine AWp_reg tok (by rfl) ?_; conv => whnf) | refine AWp_block ?_ | (refine @And.intro (underG _ _ _ _) _ ?_ ?_; rotate_left; (conv => whnf); rotate_right)); all_goals (try ((guard_target = underG _ _ _ _); refine underG_none ?_; (all_goals (try simp only [underG, true_and, and_true, Bool.cond_true_left, Bool.cond_false_left, Bool.cond_true_right, Bool.cond_false_right, Bool.or_eq_true, Bool.and_eq_true, Bool.or_eq_false_iff, Bool.and_eq_false_iff, cond_true, cond_false, Bool.not_eq_eq_eq_not, Bool.not_true, Bool.not_false, decide_eq_true_eq, decide_eq_false_iff_not, Int.toNat_natCast, Nat.zero_add, Decidable.not_not, maxL, inn_iff] at *)); all_goals omega)))
  refine AWp_loop (fun q : Nat × List Bool => mkS [(1, ints ops), (2, .bp (2, 0, 0) 0), (5, .rs (15, 0, 0) 1 0 m.funcs.length), (6, iv q.1)] [((2, 0, 0), boxed (encMod m)), ((15, 0, 0), .row true 1 m.funcs.length (fun i => [.bool (q.2.getD i false)]))])
    (fun q => q.1 ≤ m.funcs.length + 1 ∧ Iv0 m.funcs.length (ruleOf (doB ops) m) q.1 q.2) (fun q => m.funcs.length + 1 - q.1) (0, List.replicate m.funcs.length false)
      ⟨by simp, by simp, rep_beneath _ _, .inr (Nat.zero_le _)⟩ ?_ ?_
  · refine Weak.list [((2, 0, 0), .old (2, 0, 0), boxed (encMod m)), ((15, 0, 0), .old (15, 0, 0), .row true 1 m.funcs.length (fun i => [.bool ((List.replicate m.funcs.length false).getD i false)]))] rfl (by rfl) ?_ (.old rfl (BLe.refl _) (.old rfl (BLe.rowW (Nat.le_refl _) (fun z hz => ?_)) .nil))
    · ((repeat' first | exact TLes.nil | refine TLes.cons (TLe.eq rfl) ?_); skip)
    · exact Wks.of (by simp [List.getD_eq_getElem?_getD, List.getElem?_replicate]; split <;> rfl)
  rintro ⟨r, is⟩ ⟨hrl, h0⟩
  simp only at hrl h0 ⊢
  (repeat' ((fail_if_success (show AWp _ _ _ (Code.region 5 _ _) _ _)); first | refine AWp_seq ?_ | (refine AWp_reg tok (by rfl) ?_; conv => whnf) | refine AWp_block ?_ | (refine AWp_skip ?_; conv => whnf) | (refine AWp_exit ?_; conv => whnf) | (refine AWp_ret ?_; conv => whnf) | refine AWp_cond rfl (fun hb => ?_) (fun hb => ?_)))
  · have hrl2 : r ≤ m.funcs.length := by simp only [decide_eq_true_eq] at hb; omega
    clear hb
    (repeat' ((fail_if_success (show AWp _ _ _ (Code.region 2 _ _) _ _)); first | (refine AWp_reg tok (by rfl) ?_; conv => whnf) | refine AWp_block ?_))
    refine AWp_loop (fun q : Nat × List Bool => mkS [(1, ints ops), (2, .bp (2, 0, 0) 0), (5, .rs (15, 0, 0) 1 0 m.funcs.length), (6, iv r), (7, iv q.1)] [((2, 0, 0), boxed (encMod m)), ((15, 0, 0), .row true 1 m.funcs.length (fun i => [.bool (q.2.getD i false)]))])
      (fun q => q.1 ≤ m.funcs.length ∧ Iv2 m.funcs.length (ruleOf (doB ops) m) is q.1 q.2) (fun q => m.funcs.length - q.1) (0, is)
      ⟨Nat.zero_le _, h0.sz, h0.be, leL.refl _, fun j hj => absurd hj (Nat.not_lt_zero j)⟩ ?_ ?_
    · refine Weak.list [((2, 0, 0), .old (2, 0, 0), boxed (encMod m)), ((15, 0, 0), .old (15, 0, 0), .row true 1 m.funcs.length (fun i => [.bool (is.getD i false)]))] rfl (by rfl) ?_ (.old rfl (BLe.refl _) (.old rfl (BLe.refl _) .nil))
      ((repeat' first | exact TLes.nil | refine TLes.cons (TLe.eq rfl) ?_); skip)
    rintro ⟨n, js⟩ ⟨hn, hv⟩
    simp only at hn hv ⊢
    (repeat' ((fail_if_success (show AWp _ _ _ (Code.region 8 _ _) _ _)); first | refine AWp_seq ?_ | (refine AWp_reg tok (by rfl) ?_; conv => whnf) | refine AWp_block ?_ | (refine AWp_skip ?_; conv => whnf) | (refine AWp_exit ?_; conv => whnf) | refine AWp_cond rfl (fun hb => ?_) (fun hb => ?_)))
    · have hlt : n < m.funcs.length := by simp only [decide_eq_true_eq] at hb; omega
      have hnn : (n : Int).toNat = n := Int.toNat_natCast n
      clear hb
      have hbl : (m.funcs.getD n default).blocks.length ≤ 64 := by
        have := right_funcs hr hlt
        unfold funcB at this; rw [Bool.and_eq_true, decide_eq_true_eq] at this
        exact this.1.2.2.2.2.2.1
      ((repeat' ((fail_if_success (show AWp _ _ _ (Code.region 4 _ _) _ _)); first | refine AWp_seq ?_ | (refine AWp_reg tok (by rfl) ?_; conv => whnf) | refine AWp_block ?_ | (refine @And.intro (underG _ _ _ _) _ ?_ ?_; rotate_left; (conv => whnf); rotate_right))); all_goals (try ((guard_target = underG _ _ _ _); refine underG_none ?_; (all_goals (try simp only [underG, true_and, and_true, Bool.cond_true_left, Bool.cond_false_left, Bool.cond_true_right, Bool.cond_false_right, Bool.or_eq_true, Bool.and_eq_true, Bool.or_eq_false_iff, Bool.and_eq_false_iff, cond_true, cond_false, Bool.not_eq_eq_eq_not, Bool.not_true, Bool.not_false, decide_eq_true_eq, decide_eq_false_iff_not, Int.toNat_natCast, Nat.zero_add, Decidable.not_not, maxL, inn_iff] at *)); all_goals omega)))
      refine AWp_loop (fun q : Nat × List Bool => mkS [(1, ints ops), (2, .bp (2, 0, 0) 0), (5, .rs (15, 0, 0) 1 0 m.funcs.length), (6, iv r), (7, iv n), (8, .bp (8, 0, 0) 0), (9, iv q.1)] [((2, 0, 0), boxed (encMod m)), ((15, 0, 0), .row true 1 m.funcs.length (fun i => [.bool (q.2.getD i false)])), ((8, 0, 0), .row true 3 1 (fun _ => encFunc (m.funcs.getD n default)))])
        (fun q => q.1 ≤ (m.funcs.getD n default).blocks.length ∧ Iv2 m.funcs.length (ruleOf (doB ops) m) is n q.2 ∧ ∀ j, j < q.1 → doB ops (m.funcs.getD n default) ((m.funcs.getD n default).blocks.getD j default) is = true → q.2.getD n false = true) (fun q => (m.funcs.getD n default).blocks.length - q.1) (0, js)
        ⟨Nat.zero_le _, hv, fun j hj => absurd hj (Nat.not_lt_zero j)⟩ ?_ ?_
      · refine Weak.list [((2, 0, 0), .old (2, 0, 0), boxed (encMod m)), ((15, 0, 0), .old (15, 0, 0), .row true 1 m.funcs.length (fun i => [.bool (js.getD i false)])), ((8, 0, 0), .old (8, 0, 0), .row true 3 1 (fun _ => encFunc (m.funcs.getD n default)))] rfl (by rfl) ?_ (.old rfl (BLe.refl _) (.old rfl (BLe.refl _) (.old rfl (BLe.rowW (Nat.le_refl _) (fun z hz2 => Wks.of (match z, hz2 with | 0, _ => rfl))) .nil)))
        ((repeat' first | exact TLes.nil | refine TLes.cons (TLe.eq rfl) ?_); skip)
      clear hv js
      rintro ⟨i, js⟩ ⟨hi, hv, hdone⟩
      simp only at hi hv hdone ⊢
      (repeat' ((fail_if_success (show AWp _ _ _ (Code.region 12 _ _) _ _)); first | refine AWp_seq ?_ | (refine AWp_reg tok (by rfl) ?_; conv => whnf) | refine AWp_block ?_ | (refine AWp_skip ?_; conv => whnf) | (refine AWp_exit ?_; conv => whnf) | refine AWp_cond rfl (fun hb => ?_) (fun hb => ?_)))
      · have hlt2 : i < (m.funcs.getD n default).blocks.length := by simp only [decide_eq_true_eq] at hb; omega
        have hii : (i : Int).toNat = i := Int.toNat_natCast i
        clear hb
        have hok := okB_of hr hlt hlt2
        have hins : ((m.funcs.getD n default).blocks.getD i default).ins.length ≤ 64 := by
          have := func_blocks (right_funcs hr hlt) hlt2
          unfold blkB at this; rw [Bool.and_eq_true, decide_eq_true_eq] at this
          exact this.1.1
        have h1 := hok.fn
        have h2 := hok.pad
        have h3 := hok.ins
        have hsz := hv.sz
        ((repeat' ((fail_if_success (show AWp _ _ _ (Code.region 13 _ _) _ _)); first | refine AWp_seq ?_ | (refine AWp_reg tok (by rfl) ?_; conv => whnf) | (refine @And.intro (underG _ _ _ _) _ ?_ ?_; rotate_left; (conv => whnf); rotate_right))); all_goals (try ((guard_target = underG _ _ _ _); refine underG_none ?_; (all_goals (try simp only [underG, true_and, and_true, Bool.cond_true_left, Bool.cond_false_left, Bool.cond_true_right, Bool.cond_false_right, Bool.or_eq_true, Bool.and_eq_true, Bool.or_eq_false_iff, Bool.and_eq_false_iff, cond_true, cond_false, Bool.not_eq_eq_eq_not, Bool.not_true, Bool.not_false, decide_eq_true_eq, decide_eq_false_iff_not, Int.toNat_natCast, Nat.zero_add, Decidable.not_not, maxL, inn_iff] at *)); all_goals omega)))
        refine AWp_weak (Weak.list (tl := [(1, ints ops), (2, .bp (2, 0, 0) 0), (5, .rs (15, 0, 0) 1 0 m.funcs.length), (6, iv r), (7, iv n), (8, .bp (8, 0, 0) 0), (9, iv i), (10, .bp (10, 0, 0) 0)]) [((2, 0, 0), .old (2, 0, 0), boxed (encMod m)), ((15, 0, 0), .old (15, 0, 0), .row true 1 m.funcs.length (fun i => [.bool (js.getD i false)])), ((8, 0, 0), .old (8, 0, 0), .row true 3 1 (fun _ => encFunc (m.funcs.getD n default))), ((10, 0, 0), .old (10, 0, 0), .row true 14 1 (fun _ => encBlock ((m.funcs.getD n default).blocks.getD i default)))] rfl (by rfl) ?_ (.old rfl (BLe.refl _) (.old rfl (BLe.refl _) (.old rfl (BLe.refl _) (.old rfl (BLe.rowW (Nat.le_refl _) (fun z hz2 => Wks.of (match z, hz2 with | 0, _ => rfl))) .nil))))) ?_
        · ((repeat' first | exact TLes.nil | refine TLes.cons (TLe.eq rfl) ?_); skip)
        have hgen : ∃ f, m.funcs.getD n default = f := ⟨_, rfl⟩
        obtain ⟨f, hfe⟩ := hgen
        have hf2 : ∀ x, x = n → m.funcs.getD x default = f := fun x e => by rw [e]; exact hfe
        simp only [hfe] at *
        have hgen : ∃ b, f.blocks.getD i default = b := ⟨_, rfl⟩
        obtain ⟨b, hbe⟩ := hgen
        have hb2 : ∀ x, x = i → f.blocks.getD x default = b := fun x e => by rw [e]; exact hbe
        have hat : ∀ js, doB ops f b js = true → ruleOf (doB ops) m n js = true := fun js h => ruleOf_at (by rw [hf2 n rfl]; exact hlt2) (by rw [hf2 n rfl, hbe]; exact h)
        simp only [hbe] at *
        have hset : ∀ js : List Bool, js.length = m.funcs.length → (js.set n true).getD n false = true := fun js h => by rw [set_get (by omega)]; simp
        ((repeat' ((fail_if_success (show AWp _ _ _ (Code.region 6 _ _) _ _)); first | refine AWp_seq ?_ | (refine AWp_reg tok (by rfl) ?_; conv => whnf) | refine AWp_block ?_ | (refine AWp_skip ?_; conv => whnf) | refine AWp_cond rfl (fun hb => ?_) (fun hb => ?_) | (refine @And.intro (underG _ _ _ _) _ ?_ ?_; rotate_left; (conv => whnf); rotate_right))); all_goals (try ((guard_target = underG _ _ _ _); (first | refine underG_none ?_ | (refine underG_some ?_; intro hgd; (conv at hgd => whnf))); (all_goals (try simp only [underG, true_and, and_true, Bool.cond_true_left, Bool.cond_false_left, Bool.cond_true_right, Bool.cond_false_right, Bool.or_eq_true, Bool.and_eq_true, Bool.or_eq_false_iff, Bool.and_eq_false_iff, cond_true, cond_false, Bool.not_eq_eq_eq_not, Bool.not_true, Bool.not_false, decide_eq_true_eq, decide_eq_false_iff_not, Int.toNat_natCast, Nat.zero_add, Decidable.not_not, maxL, inn_iff] at *)); all_goals omega)))
        · have hx : endD f b js = true := by simpa [endD, isAt] using hb
          have hv1 := hv.set hD hlt (hat js (by rw [doB_of, hx]; rfl))
          have hd1 : ∀ j, j < i → doB ops f (f.blocks.getD j default) is = true → (js.set n true).getD n false = true := fun _ _ _ => hset js hsz
          have he1 : endD f b is = true → (js.set n true).getD n false = true := fun _ => hset js hsz
          refine AWp_weak (Weak.list (tl := [(1, ints ops), (2, .bp (2, 0, 0) 0), (5, .rs (15, 0, 0) 1 0 m.funcs.length), (6, iv r), (7, iv n), (8, .bp (8, 0, 0) 0), (9, iv i), (10, .bp (10, 0, 0) 0), (11, iv 0)]) [((2, 0, 0), .old (2, 0, 0), boxed (encMod m)), ((15, 0, 0), .old (15, 0, 0), .row true 1 m.funcs.length (fun i => [.bool ((js.set n true).getD i false)])), ((8, 0, 0), .old (8, 0, 0), .row true 3 1 (fun _ => encFunc f)), ((10, 0, 0), .old (10, 0, 0), .row true 14 1 (fun _ => encBlock b))] rfl (by rfl) ?_ (.old rfl (BLe.refl _) (.old rfl (BLe.rowW (Nat.le_refl _) (fun z hz2 => Wks.of ?_)) (.old rfl (BLe.refl _) (.old rfl (BLe.refl _) .nil))))) ?_
          · ((repeat' first | exact TLes.nil | refine TLes.cons (TLe.eq rfl) ?_); skip)
          · exact upd_row' (fun b => [AV.bool b]) false js (by omega) (by simp) rfl z
          clear hv hdone hsz hb hx
          generalize js.set n true = js at hv1 hd1 he1 ⊢
          refine AWp_loop (fun q : Nat × List Bool => mkS [(1, ints ops), (2, .bp (2, 0, 0) 0), (5, .rs (15, 0, 0) 1 0 m.funcs.length), (6, iv r), (7, iv n), (8, .bp (8, 0, 0) 0), (9, iv i), (10, .bp (10, 0, 0) 0), (11, iv q.1)] [((2, 0, 0), boxed (encMod m)), ((15, 0, 0), .row true 1 m.funcs.length (fun i => [.bool (q.2.getD i false)])), ((8, 0, 0), .row true 3 1 (fun _ => encFunc f)), ((10, 0, 0), .row true 14 1 (fun _ => encBlock b))])
            (fun q => q.1 ≤ b.ins.length ∧ Iv2 m.funcs.length (ruleOf (doB ops) m) is n q.2 ∧ (∀ j, j < i → doB ops f (f.blocks.getD j default) is = true → q.2.getD n false = true) ∧ (endD f b is = true → q.2.getD n false = true) ∧ ∀ j, j < q.1 → insD ops (b.ins.getD j default) is = true → q.2.getD n false = true)
            (fun q => b.ins.length - q.1) (0, js) ⟨Nat.zero_le _, hv1, hd1, he1, fun j hj => absurd hj (Nat.not_lt_zero j)⟩ ?_ ?_
          · refine Weak.list [((2, 0, 0), .old (2, 0, 0), boxed (encMod m)), ((15, 0, 0), .old (15, 0, 0), .row true 1 m.funcs.length (fun i => [.bool (js.getD i false)])), ((8, 0, 0), .old (8, 0, 0), .row true 3 1 (fun _ => encFunc f)), ((10, 0, 0), .old (10, 0, 0), .row true 14 1 (fun _ => encBlock b))] rfl (by rfl) ?_ (.old rfl (BLe.refl _) (.old rfl (BLe.refl _) (.old rfl (BLe.refl _) (.old rfl (BLe.refl _) .nil))))
            ((repeat' first | exact TLes.nil | refine TLes.cons (TLe.eq rfl) ?_); skip)
          clear hv1 hd1 he1 js
          rintro ⟨k, js⟩ ⟨hk, hv, hd, he, hin⟩
          simp only at hk hv hd he hin ⊢
          have hsz := hv.sz
          have hkk : (k : Int).toNat = k := Int.toNat_natCast k
          (repeat' ((fail_if_success (show AWp _ _ _ (Code.region 18 _ _) _ _)); first | refine AWp_seq ?_ | (refine AWp_reg tok (by rfl) ?_; conv => whnf) | refine AWp_block ?_ | (refine AWp_skip ?_; conv => whnf) | (refine AWp_exit ?_; conv => whnf) | refine AWp_cond rfl (fun hb => ?_) (fun hb => ?_)))
          · have hk2 : k < b.ins.length := by simp only [decide_eq_true_eq] at hb; omega
            have hop := h3 k hk2
            clear hb
            ((repeat' first | (refine AWp_reg tok (by rfl) ?_; conv => whnf) | (refine @And.intro (underG _ _ _ _) _ ?_ ?_; rotate_left; (conv => whnf); rotate_right)); all_goals (try ((guard_target = underG _ _ _ _); refine underG_none ?_; (all_goals (try simp only [underG, true_and, and_true, Bool.cond_true_left, Bool.cond_false_left, Bool.cond_true_right, Bool.cond_false_right, Bool.or_eq_true, Bool.and_eq_true, Bool.or_eq_false_iff, Bool.and_eq_false_iff, cond_true, cond_false, Bool.not_eq_eq_eq_not, Bool.not_true, Bool.not_false, decide_eq_true_eq, decide_eq_false_iff_not, Int.toNat_natCast, Nat.zero_add, Decidable.not_not, maxL, inn_iff] at *)); all_goals omega)))
            refine .inl ⟨_, _, _, uG (QC.fc (c_Has ops (b.ins.getD k default).op) rfl), ?_⟩
            conv => whnf
            ((repeat' first | (refine AWp_reg tok (by rfl) ?_; conv => whnf) | (refine AWp_skip ?_; conv => whnf) | refine AWp_cond rfl (fun hb => ?_) (fun hb => ?_) | (refine @And.intro (underG _ _ _ _) _ ?_ ?_; rotate_left; (conv => whnf); rotate_right)); all_goals (try ((guard_target = underG _ _ _ _); (first | refine underG_none ?_ | (refine underG_some ?_; intro hgd; (conv at hgd => whnf); (try simp (disch := omega) only [wrap64] at hgd))); (all_goals (try simp only [underG, true_and, and_true, Bool.cond_true_left, Bool.cond_false_left, Bool.cond_true_right, Bool.cond_false_right, Bool.or_eq_true, Bool.and_eq_true, Bool.or_eq_false_iff, Bool.and_eq_false_iff, cond_true, cond_false, Bool.not_eq_eq_eq_not, Bool.not_true, Bool.not_false, decide_eq_true_eq, decide_eq_false_iff_not, Int.toNat_natCast, Nat.zero_add, Decidable.not_not, maxL, inn_iff] at *)); all_goals omega)))
            · have hx : insD ops (b.ins.getD k default) js = true := by simpa [insD, isAt] using hb
              refine ⟨(k + 1, js.set n true), ⟨by simp; omega, hv.set hD hlt (hat js ?_), fun _ _ _ => hset js hsz, fun _ => hset js hsz, fun _ _ _ => hset js hsz⟩, by simp; omega, ?_⟩
              · rw [doB_of, Bool.or_eq_true, List.any_eq_true]
                exact .inr ⟨_, by rw [getD_lt default hk2]; exact List.getElem_mem hk2, hx⟩
              refine Weak.list [((2, 0, 0), .old (2, 0, 0), boxed (encMod m)), ((15, 0, 0), .old (15, 0, 0), .row true 1 m.funcs.length (fun i => [.bool ((js.set n true).getD i false)])), ((8, 0, 0), .old (8, 0, 0), .row true 3 1 (fun _ => encFunc f)), ((10, 0, 0), .old (10, 0, 0), .row true 14 1 (fun _ => encBlock b))] rfl (by rfl) ?_ (.old rfl (BLe.refl _) (.old rfl (BLe.rowW (Nat.le_refl _) (fun z hz2 => Wks.of ?_)) (.old rfl (BLe.refl _) (.old rfl (BLe.refl _) .nil))))
              · ((repeat' first | exact TLes.nil | refine TLes.cons (TLe.eq rfl) ?_ | refine TLes.cons (TLe.int ?_) ?_); (all_goals first | ((try (simp only [underG, true_and, and_true, Bool.cond_true_left, Bool.cond_false_left, Bool.cond_true_right, Bool.cond_false_right, Bool.or_eq_true, Bool.and_eq_true, Bool.or_eq_false_iff, Bool.and_eq_false_iff, cond_true, cond_false, Bool.not_eq_eq_eq_not, Bool.not_true, Bool.not_false, decide_eq_true_eq, decide_eq_false_iff_not, Int.toNat_natCast, Nat.zero_add, Decidable.not_not, maxL, inn_iff] at *)); exact wrap64 (by omega) (by omega)) | skip))
              · exact upd_row' (fun b => [AV.bool b]) false js (by omega) (by simp) rfl z
            · have hx : insD ops (b.ins.getD k default) js = false := by simpa [insD, isAt] using hb
              refine ⟨(k + 1, js), ⟨by simp; omega, hv, hd, he, fun j hj h => ?_⟩, by simp; omega, ?_⟩
              · by_cases e : j = k
                · subst e
                  have := insD_mono ops (b.ins.getD j default) is js hv.le h
                  rw [hx] at this; cases this
                · exact hin j (by simp at hj; omega) h
              refine Weak.list [((2, 0, 0), .old (2, 0, 0), boxed (encMod m)), ((15, 0, 0), .old (15, 0, 0), .row true 1 m.funcs.length (fun i => [.bool (js.getD i false)])), ((8, 0, 0), .old (8, 0, 0), .row true 3 1 (fun _ => encFunc f)), ((10, 0, 0), .old (10, 0, 0), .row true 14 1 (fun _ => encBlock b))] rfl (by rfl) ?_ (.old rfl (BLe.refl _) (.old rfl (BLe.refl _) (.old rfl (BLe.refl _) (.old rfl (BLe.refl _) .nil))))
              ((repeat' first | exact TLes.nil | refine TLes.cons (TLe.eq rfl) ?_ | refine TLes.cons (TLe.int ?_) ?_); (all_goals first | ((try (simp only [underG, true_and, and_true, Bool.cond_true_left, Bool.cond_false_left, Bool.cond_true_right, Bool.cond_false_right, Bool.or_eq_true, Bool.and_eq_true, Bool.or_eq_false_iff, Bool.and_eq_false_iff, cond_true, cond_false, Bool.not_eq_eq_eq_not, Bool.not_true, Bool.not_false, decide_eq_true_eq, decide_eq_false_iff_not, Int.toNat_natCast, Nat.zero_add, Decidable.not_not, maxL, inn_iff] at *)); exact wrap64 (by omega) (by omega)) | skip))
          · have hk2 : k = b.ins.length := by simp only [decide_eq_false_iff_not] at hb; omega
            clear hb
            skip
            refine ⟨(i + 1, js), ⟨by simp; omega, hv, fun j hj h => ?_⟩, by simp; omega, ?_⟩
            · by_cases e : j = i
              · subst e
                rw [hb2 j rfl, doB_of, Bool.or_eq_true, List.any_eq_true] at h
                rcases h with h | ⟨x, hx, h⟩
                · exact he h
                · obtain ⟨q, hq, rfl⟩ := List.getElem_of_mem hx
                  exact hin q (by omega) (by rw [getD_lt default hq]; exact h)
              · exact hd j (by simp at hj; omega) h
            refine Weak.list [((2, 0, 0), .old (2, 0, 0), boxed (encMod m)), ((15, 0, 0), .old (15, 0, 0), .row true 1 m.funcs.length (fun i => [.bool (js.getD i false)])), ((8, 0, 0), .old (8, 0, 0), .row true 3 1 (fun _ => encFunc f))] rfl (by rfl) ?_ (.old rfl (BLe.refl _) (.old rfl (BLe.refl _) (.old rfl (BLe.refl _) .nil)))
            ((repeat' first | exact TLes.nil | refine TLes.cons (TLe.eq rfl) ?_ | refine TLes.cons (TLe.int ?_) ?_); (all_goals first | ((try (simp only [underG, true_and, and_true, Bool.cond_true_left, Bool.cond_false_left, Bool.cond_true_right, Bool.cond_false_right, Bool.or_eq_true, Bool.and_eq_true, Bool.or_eq_false_iff, Bool.and_eq_false_iff, cond_true, cond_false, Bool.not_eq_eq_eq_not, Bool.not_true, Bool.not_false, decide_eq_true_eq, decide_eq_false_iff_not, Int.toNat_natCast, Nat.zero_add, Decidable.not_not, maxL, inn_iff] at *)); exact wrap64 (by omega) (by omega)) | skip))
        · have hx : endD f b js = false := by simpa [endD, isAt] using hb
          have hv1 := hv
          have hd1 := hdone
          have he1 : endD f b is = true → js.getD n false = true := fun h => by
            have := endD_mono f b is js hv.le h
            rw [hx] at this; cases this
          refine AWp_weak (Weak.list (tl := [(1, ints ops), (2, .bp (2, 0, 0) 0), (5, .rs (15, 0, 0) 1 0 m.funcs.length), (6, iv r), (7, iv n), (8, .bp (8, 0, 0) 0), (9, iv i), (10, .bp (10, 0, 0) 0), (11, iv 0)]) [((2, 0, 0), .old (2, 0, 0), boxed (encMod m)), ((15, 0, 0), .old (15, 0, 0), .row true 1 m.funcs.length (fun i => [.bool (js.getD i false)])), ((8, 0, 0), .old (8, 0, 0), .row true 3 1 (fun _ => encFunc f)), ((10, 0, 0), .old (10, 0, 0), .row true 14 1 (fun _ => encBlock b))] rfl (by rfl) ?_ (.old rfl (BLe.refl _) (.old rfl (BLe.refl _) (.old rfl (BLe.refl _) (.old rfl (BLe.refl _) .nil))))) ?_
          · ((repeat' first | exact TLes.nil | refine TLes.cons (TLe.eq rfl) ?_); skip)
          clear hv hdone hsz hb hx
          refine AWp_loop (fun q : Nat × List Bool => mkS [(1, ints ops), (2, .bp (2, 0, 0) 0), (5, .rs (15, 0, 0) 1 0 m.funcs.length), (6, iv r), (7, iv n), (8, .bp (8, 0, 0) 0), (9, iv i), (10, .bp (10, 0, 0) 0), (11, iv q.1)] [((2, 0, 0), boxed (encMod m)), ((15, 0, 0), .row true 1 m.funcs.length (fun i => [.bool (q.2.getD i false)])), ((8, 0, 0), .row true 3 1 (fun _ => encFunc f)), ((10, 0, 0), .row true 14 1 (fun _ => encBlock b))])
            (fun q => q.1 ≤ b.ins.length ∧ Iv2 m.funcs.length (ruleOf (doB ops) m) is n q.2 ∧ (∀ j, j < i → doB ops f (f.blocks.getD j default) is = true → q.2.getD n false = true) ∧ (endD f b is = true → q.2.getD n false = true) ∧ ∀ j, j < q.1 → insD ops (b.ins.getD j default) is = true → q.2.getD n false = true)
            (fun q => b.ins.length - q.1) (0, js) ⟨Nat.zero_le _, hv1, hd1, he1, fun j hj => absurd hj (Nat.not_lt_zero j)⟩ ?_ ?_
          · refine Weak.list [((2, 0, 0), .old (2, 0, 0), boxed (encMod m)), ((15, 0, 0), .old (15, 0, 0), .row true 1 m.funcs.length (fun i => [.bool (js.getD i false)])), ((8, 0, 0), .old (8, 0, 0), .row true 3 1 (fun _ => encFunc f)), ((10, 0, 0), .old (10, 0, 0), .row true 14 1 (fun _ => encBlock b))] rfl (by rfl) ?_ (.old rfl (BLe.refl _) (.old rfl (BLe.refl _) (.old rfl (BLe.refl _) (.old rfl (BLe.refl _) .nil))))
            ((repeat' first | exact TLes.nil | refine TLes.cons (TLe.eq rfl) ?_); skip)
          clear hv1 hd1 he1 js
          rintro ⟨k, js⟩ ⟨hk, hv, hd, he, hin⟩
          simp only at hk hv hd he hin ⊢
          have hsz := hv.sz
          have hkk : (k : Int).toNat = k := Int.toNat_natCast k
          (repeat' ((fail_if_success (show AWp _ _ _ (Code.region 18 _ _) _ _)); first | refine AWp_seq ?_ | (refine AWp_reg tok (by rfl) ?_; conv => whnf) | refine AWp_block ?_ | (refine AWp_skip ?_; conv => whnf) | (refine AWp_exit ?_; conv => whnf) | refine AWp_cond rfl (fun hb => ?_) (fun hb => ?_)))
          · have hk2 : k < b.ins.length := by simp only [decide_eq_true_eq] at hb; omega
            have hop := h3 k hk2
            clear hb
            ((repeat' first | (refine AWp_reg tok (by rfl) ?_; conv => whnf) | (refine @And.intro (underG _ _ _ _) _ ?_ ?_; rotate_left; (conv => whnf); rotate_right)); all_goals (try ((guard_target = underG _ _ _ _); refine underG_none ?_; (all_goals (try simp only [underG, true_and, and_true, Bool.cond_true_left, Bool.cond_false_left, Bool.cond_true_right, Bool.cond_false_right, Bool.or_eq_true, Bool.and_eq_true, Bool.or_eq_false_iff, Bool.and_eq_false_iff, cond_true, cond_false, Bool.not_eq_eq_eq_not, Bool.not_true, Bool.not_false, decide_eq_true_eq, decide_eq_false_iff_not, Int.toNat_natCast, Nat.zero_add, Decidable.not_not, maxL, inn_iff] at *)); all_goals omega)))
            refine .inl ⟨_, _, _, uG (QC.fc (c_Has ops (b.ins.getD k default).op) rfl), ?_⟩
            conv => whnf
            ((repeat' first | (refine AWp_reg tok (by rfl) ?_; conv => whnf) | (refine AWp_skip ?_; conv => whnf) | refine AWp_cond rfl (fun hb => ?_) (fun hb => ?_) | (refine @And.intro (underG _ _ _ _) _ ?_ ?_; rotate_left; (conv => whnf); rotate_right)); all_goals (try ((guard_target = underG _ _ _ _); (first | refine underG_none ?_ | (refine underG_some ?_; intro hgd; (conv at hgd => whnf); (try simp (disch := omega) only [wrap64] at hgd))); (all_goals (try simp only [underG, true_and, and_true, Bool.cond_true_left, Bool.cond_false_left, Bool.cond_true_right, Bool.cond_false_right, Bool.or_eq_true, Bool.and_eq_true, Bool.or_eq_false_iff, Bool.and_eq_false_iff, cond_true, cond_false, Bool.not_eq_eq_eq_not, Bool.not_true, Bool.not_false, decide_eq_true_eq, decide_eq_false_iff_not, Int.toNat_natCast, Nat.zero_add, Decidable.not_not, maxL, inn_iff] at *)); all_goals omega)))
            · have hx : insD ops (b.ins.getD k default) js = true := by simpa [insD, isAt] using hb
              refine ⟨(k + 1, js.set n true), ⟨by simp; omega, hv.set hD hlt (hat js ?_), fun _ _ _ => hset js hsz, fun _ => hset js hsz, fun _ _ _ => hset js hsz⟩, by simp; omega, ?_⟩
              · rw [doB_of, Bool.or_eq_true, List.any_eq_true]
                exact .inr ⟨_, by rw [getD_lt default hk2]; exact List.getElem_mem hk2, hx⟩
              refine Weak.list [((2, 0, 0), .old (2, 0, 0), boxed (encMod m)), ((15, 0, 0), .old (15, 0, 0), .row true 1 m.funcs.length (fun i => [.bool ((js.set n true).getD i false)])), ((8, 0, 0), .old (8, 0, 0), .row true 3 1 (fun _ => encFunc f)), ((10, 0, 0), .old (10, 0, 0), .row true 14 1 (fun _ => encBlock b))] rfl (by rfl) ?_ (.old rfl (BLe.refl _) (.old rfl (BLe.rowW (Nat.le_refl _) (fun z hz2 => Wks.of ?_)) (.old rfl (BLe.refl _) (.old rfl (BLe.refl _) .nil))))
              · ((repeat' first | exact TLes.nil | refine TLes.cons (TLe.eq rfl) ?_ | refine TLes.cons (TLe.int ?_) ?_); (all_goals first | ((try (simp only [underG, true_and, and_true, Bool.cond_true_left, Bool.cond_false_left, Bool.cond_true_right, Bool.cond_false_right, Bool.or_eq_true, Bool.and_eq_true, Bool.or_eq_false_iff, Bool.and_eq_false_iff, cond_true, cond_false, Bool.not_eq_eq_eq_not, Bool.not_true, Bool.not_false, decide_eq_true_eq, decide_eq_false_iff_not, Int.toNat_natCast, Nat.zero_add, Decidable.not_not, maxL, inn_iff] at *)); exact wrap64 (by omega) (by omega)) | skip))
              · exact upd_row' (fun b => [AV.bool b]) false js (by omega) (by simp) rfl z
            · have hx : insD ops (b.ins.getD k default) js = false := by simpa [insD, isAt] using hb
              refine ⟨(k + 1, js), ⟨by simp; omega, hv, hd, he, fun j hj h => ?_⟩, by simp; omega, ?_⟩
              · by_cases e : j = k
                · subst e
                  have := insD_mono ops (b.ins.getD j default) is js hv.le h
                  rw [hx] at this; cases this
                · exact hin j (by simp at hj; omega) h
              refine Weak.list [((2, 0, 0), .old (2, 0, 0), boxed (encMod m)), ((15, 0, 0), .old (15, 0, 0), .row true 1 m.funcs.length (fun i => [.bool (js.getD i false)])), ((8, 0, 0), .old (8, 0, 0), .row true 3 1 (fun _ => encFunc f)), ((10, 0, 0), .old (10, 0, 0), .row true 14 1 (fun _ => encBlock b))] rfl (by rfl) ?_ (.old rfl (BLe.refl _) (.old rfl (BLe.refl _) (.old rfl (BLe.refl _) (.old rfl (BLe.refl _) .nil))))
              ((repeat' first | exact TLes.nil | refine TLes.cons (TLe.eq rfl) ?_ | refine TLes.cons (TLe.int ?_) ?_); (all_goals first | ((try (simp only [underG, true_and, and_true, Bool.cond_true_left, Bool.cond_false_left, Bool.cond_true_right, Bool.cond_false_right, Bool.or_eq_true, Bool.and_eq_true, Bool.or_eq_false_iff, Bool.and_eq_false_iff, cond_true, cond_false, Bool.not_eq_eq_eq_not, Bool.not_true, Bool.not_false, decide_eq_true_eq, decide_eq_false_iff_not, Int.toNat_natCast, Nat.zero_add, Decidable.not_not, maxL, inn_iff] at *)); exact wrap64 (by omega) (by omega)) | skip))
          · have hk2 : k = b.ins.length := by simp only [decide_eq_false_iff_not] at hb; omega
            clear hb
            skip
            refine ⟨(i + 1, js), ⟨by simp; omega, hv, fun j hj h => ?_⟩, by simp; omega, ?_⟩
            · by_cases e : j = i
              · subst e
                rw [hb2 j rfl, doB_of, Bool.or_eq_true, List.any_eq_true] at h
                rcases h with h | ⟨x, hx, h⟩
                · exact he h
                · obtain ⟨q, hq, rfl⟩ := List.getElem_of_mem hx
                  exact hin q (by omega) (by rw [getD_lt default hq]; exact h)
              · exact hd j (by simp at hj; omega) h
            refine Weak.list [((2, 0, 0), .old (2, 0, 0), boxed (encMod m)), ((15, 0, 0), .old (15, 0, 0), .row true 1 m.funcs.length (fun i => [.bool (js.getD i false)])), ((8, 0, 0), .old (8, 0, 0), .row true 3 1 (fun _ => encFunc f))] rfl (by rfl) ?_ (.old rfl (BLe.refl _) (.old rfl (BLe.refl _) (.old rfl (BLe.refl _) .nil)))
            ((repeat' first | exact TLes.nil | refine TLes.cons (TLe.eq rfl) ?_ | refine TLes.cons (TLe.int ?_) ?_); (all_goals first | ((try (simp only [underG, true_and, and_true, Bool.cond_true_left, Bool.cond_false_left, Bool.cond_true_right, Bool.cond_false_right, Bool.or_eq_true, Bool.and_eq_true, Bool.or_eq_false_iff, Bool.and_eq_false_iff, cond_true, cond_false, Bool.not_eq_eq_eq_not, Bool.not_true, Bool.not_false, decide_eq_true_eq, decide_eq_false_iff_not, Int.toNat_natCast, Nat.zero_add, Decidable.not_not, maxL, inn_iff] at *)); exact wrap64 (by omega) (by omega)) | skip))
      · have hi2 : i = (m.funcs.getD n default).blocks.length := by simp only [decide_eq_false_iff_not] at hb; omega
        refine ⟨(n + 1, js), ⟨by simp; omega, hv.sz, hv.be, hv.le, fun j hj hd => ?_⟩, by simp; omega, ?_⟩
        · by_cases e : j = n
          · subst e
            unfold ruleOf at hd
            rw [List.any_eq_true] at hd
            obtain ⟨x, hx, hk⟩ := hd
            obtain ⟨q, hq, rfl⟩ := List.getElem_of_mem hx
            exact hdone q (by omega) (by rw [getD_lt default hq]; exact hk)
          · exact hv.don j (by simp at hj; omega) hd
        refine Weak.list [((2, 0, 0), .old (2, 0, 0), boxed (encMod m)), ((15, 0, 0), .old (15, 0, 0), .row true 1 m.funcs.length (fun i => [.bool (js.getD i false)]))] rfl (by rfl) ?_ (.old rfl (BLe.refl _) (.old rfl (BLe.refl _) .nil))
        ((repeat' first | exact TLes.nil | refine TLes.cons (TLe.eq rfl) ?_ | refine TLes.cons (TLe.int ?_) ?_); (all_goals first | ((try (simp only [underG, true_and, and_true, Bool.cond_true_left, Bool.cond_false_left, Bool.cond_true_right, Bool.cond_false_right, Bool.or_eq_true, Bool.and_eq_true, Bool.or_eq_false_iff, Bool.and_eq_false_iff, cond_true, cond_false, Bool.not_eq_eq_eq_not, Bool.not_true, Bool.not_false, decide_eq_true_eq, decide_eq_false_iff_not, Int.toNat_natCast, Nat.zero_add, Decidable.not_not, maxL, inn_iff] at *)); exact wrap64 (by omega) (by omega)) | skip))
    · have hn2 : n = m.funcs.length := by simp only [decide_eq_false_iff_not] at hb; omega
      subst hn2
      refine ⟨(r + 1, js), ⟨by simp; omega, h0.next hv⟩, by simp; omega, ?_⟩
      refine Weak.list [((2, 0, 0), .old (2, 0, 0), boxed (encMod m)), ((15, 0, 0), .old (15, 0, 0), .row true 1 m.funcs.length (fun i => [.bool (js.getD i false)]))] rfl (by rfl) ?_ (.old rfl (BLe.refl _) (.old rfl (BLe.refl _) .nil))
      ((repeat' first | exact TLes.nil | refine TLes.cons (TLe.eq rfl) ?_ | refine TLes.cons (TLe.int ?_) ?_); (all_goals first | ((try (simp only [underG, true_and, and_true, Bool.cond_true_left, Bool.cond_false_left, Bool.cond_true_right, Bool.cond_false_right, Bool.or_eq_true, Bool.and_eq_true, Bool.or_eq_false_iff, Bool.and_eq_false_iff, cond_true, cond_false, Bool.not_eq_eq_eq_not, Bool.not_true, Bool.not_false, decide_eq_true_eq, decide_eq_false_iff_not, Int.toNat_natCast, Nat.zero_add, Decidable.not_not, maxL, inn_iff] at *)); exact wrap64 (by omega) (by omega)) | skip))
  · have hr2 : r = m.funcs.length + 1 := by simp only [decide_eq_false_iff_not] at hb; omega
    subst hr2
    have he := h0.done hD
    refine ⟨_, rfl, .rs rfl (Nat.le_refl _) ?_ (fun _ _ => ?_)⟩
    · rw [← he, h0.sz]
    · rw [← he]
end Go.Proofs.Ytmanpbgaihdalaa
namespace Go.Proofs.Ytmanpbgaihdalaa
open Go Dv
set_option maxRecDepth 10000
set_option linter.unusedSimpArgs false
def nilEnd : End := ⟨0, 0, 0, 0, [], 0, 0, 0⟩
def nilPad : Pad := ⟨0, [], false, false⟩
def awT : Module := ⟨[⟨0, 1, [⟨false, nilPad, [], ⟨4, 0, 0, 1, [], 0, 0, 1⟩⟩, ⟨true, ⟨0, [], true, false⟩, [], ⟨1, 0, 0, 0, [], 0, 0, 0⟩⟩]⟩, ⟨0, 1, [⟨false, nilPad, [⟨12, 0, 0, 0, 0, 0, []⟩], ⟨5, 0, 0, 0, [], 0, 0, 0⟩⟩]⟩]⟩
theorem c_awake12 : FC Try.prog 15 [] (.bool true) := by
  refine FC_intro tok Try.func15 rfl (by decide +kernel) (Nat.le_of_ble_eq_true rfl) ?_
  (repeat' ((fail_if_success (show AWp _ _ _ (Code.region 2 _ _) _ _)); first | refine AWp_seq ?_ | (refine AWp_reg tok (by rfl) ?_; conv => whnf)))
  refine AWp_weak (Weak.fam (tl := [(1, .bp (1, 0, 0) 0)]) (hl := [((1, 0, 0), .row true 1 1 (fun _ => encMod awT))]) (F := noH) [] rfl (fun i hi => by cases hi) (.cons (.bp rfl rfl) .nil) (.old rfl rfl (GB.one ?_ (fun _ => rfl)) .nil) noF (fun i hi => by cases hi)) ?_
  · (repeat' first | exact GVs.nil | exact lt0 | refine ltS ?_ ?_ | ((conv => arg 4; whnf); (conv => arg 5; whnf); first | refine GVs.cons (GV.imm rfl) ?_ | refine GVs.cons (GV.wk rfl (.nsl rfl)) ?_ | refine GVs.cons (GV.frz (hd_no rfl) rfl (Nat.le_of_ble_eq_true rfl) rfl ?_ ?_) ?_) | exact (show immDs _ = true from rfl))
  have h1 : FOb 17 [.agg (encMod awT)] [false, true] := (by decide +kernel : outL awT = [false, true]) ▸ c_tOut awT
  have h2 : FOb 18 [.agg (encMod awT)] [true, true] := (by decide +kernel : doL [12, 13] awT = [true, true]) ▸ c_Tells awT
  have h3 : FOb 19 [.agg (encMod awT)] [false, false] := (by decide +kernel : doL [10] awT = [false, false]) ▸ c_Writes awT
  (repeat' (refine AWp_any tok mix (by rfl) ?_; conv => whnf))
  refine .inl ⟨_, _, _, uG (QC.fo (rd := []) h1 (Ress.imms rfl) (.inl rfl) rfl), ?_⟩
  conv => whnf
  skip
  refine .inl ⟨_, _, _, uG (QC.fo (rd := []) h2 (Ress.imms rfl) (.inl rfl) rfl), ?_⟩
  conv => whnf
  skip
  refine .inl ⟨_, _, _, uG (QC.fo (rd := []) h3 (Ress.imms rfl) (.inl rfl) rfl), ?_⟩
  conv => whnf
  ((repeat' first | refine AWp_seq ?_ | (refine AWp_reg tok (by rfl) ?_; conv => whnf) | (refine AWp_ret ?_; conv => whnf) | (refine @And.intro (underG _ _ _ _) _ ?_ ?_; rotate_left; (conv => whnf); rotate_right)); all_goals (try ((guard_target = underG _ _ _ _); ((refine underG_some ?_; intro hgd; (conv at hgd => whnf))); (all_goals (try simp only [underG, true_and, and_true, Bool.cond_true_left, Bool.cond_false_left, Bool.cond_true_right, Bool.cond_false_right, Bool.or_eq_true, Bool.and_eq_true, Bool.or_eq_false_iff, Bool.and_eq_false_iff, cond_true, cond_false, Bool.not_eq_eq_eq_not, Bool.not_true, Bool.not_false, decide_eq_true_eq, decide_eq_false_iff_not, Int.toNat_natCast, Nat.zero_add, Decidable.not_not, maxL, inn_iff] at *)); all_goals omega)))
  exact ⟨_, rfl, Rel.bool rfl⟩
theorem c_Bools (a b : List Bool) : FC Try.prog 21 [bools a, bools b] (.bool (decide (a = b))) := by
  refine FC_intro tok Try.func21 rfl (by decide +kernel) (Nat.le_of_ble_eq_true rfl) ?_
  refine AWp_facts 0 (fun hl => ?_)
  have hl0 : a.length ≤ maxL := hl.1
  (repeat' first | refine AWp_seq ?_ | (refine AWp_reg tok (by rfl) ?_; conv => whnf) | refine AWp_block ?_ | (refine AWp_skip ?_; conv => whnf) | (refine AWp_ret ?_; conv => whnf) | refine AWp_cond rfl (fun hb => ?_) (fun hb => ?_))
  · refine ⟨_, rfl, Rel.bool ?_⟩
    symm; rw [decide_eq_false_iff_not]
    intro e; subst e; simp at hb
  have hlen : a.length = b.length := by simp at hb; omega
  clear hb
  refine AWp_loop (fun i : Nat => mkS [(0, bools a), (1, bools b), (5, iv i)] [])
    (fun i => i ≤ a.length ∧ ∀ j, j < i → a.getD j false = b.getD j false) (fun i => a.length - i) 0 ⟨Nat.zero_le _, by simp⟩ ?_ ?_
  · refine Weak.list [] rfl (by rfl) ?_ .nil
    ((repeat' first | exact TLes.nil | refine TLes.cons (TLe.eq rfl) ?_); skip)
  rintro i ⟨hi2, hc⟩
  ((repeat' first | refine AWp_seq ?_ | (refine AWp_reg tok (by rfl) ?_; conv => whnf) | (refine AWp_any tok mix (by rfl) ?_; conv => whnf) | refine AWp_block ?_ | (refine AWp_skip ?_; conv => whnf) | (refine AWp_exit ?_; conv => whnf) | (refine AWp_ret ?_; conv => whnf) | refine AWp_cond rfl (fun hb => ?_) (fun hb => ?_) | (refine @And.intro (underG _ _ _ _) _ ?_ ?_; rotate_left; (conv => whnf); rotate_right)); all_goals (try ((guard_target = underG _ _ _ _); refine underG_none ?_; (all_goals (try simp only [underG, true_and, and_true, Bool.cond_true_left, Bool.cond_false_left, Bool.cond_true_right, Bool.cond_false_right, Bool.or_eq_true, Bool.and_eq_true, Bool.or_eq_false_iff, Bool.and_eq_false_iff, cond_true, cond_false, Bool.not_eq_eq_eq_not, Bool.not_true, Bool.not_false, decide_eq_true_eq, decide_eq_false_iff_not, Int.toNat_natCast, Nat.zero_add, Decidable.not_not, maxL, inn_iff] at *)); all_goals omega)))
  · have hlt : i < a.length := by rename_i h; simp only [underG, true_and, and_true, Bool.cond_true_left, Bool.cond_false_left, Bool.cond_true_right, Bool.cond_false_right, Bool.or_eq_true, Bool.and_eq_true, Bool.or_eq_false_iff, Bool.and_eq_false_iff, cond_true, cond_false, Bool.not_eq_eq_eq_not, Bool.not_true, Bool.not_false, decide_eq_true_eq, decide_eq_false_iff_not, Int.toNat_natCast, Nat.zero_add, Decidable.not_not, maxL, inn_iff] at *; omega
    refine ⟨_, rfl, Rel.bool ?_⟩
    symm; rw [decide_eq_false_iff_not]
    intro e; subst e; simp at hb
  · have hlt : i < a.length := by rename_i h; simp only [underG, true_and, and_true, Bool.cond_true_left, Bool.cond_false_left, Bool.cond_true_right, Bool.cond_false_right, Bool.or_eq_true, Bool.and_eq_true, Bool.or_eq_false_iff, Bool.and_eq_false_iff, cond_true, cond_false, Bool.not_eq_eq_eq_not, Bool.not_true, Bool.not_false, decide_eq_true_eq, decide_eq_false_iff_not, Int.toNat_natCast, Nat.zero_add, Decidable.not_not, maxL, inn_iff] at *; omega
    refine ⟨i + 1, ⟨hlt, fun j hj => ?_⟩, by omega, ?_⟩
    · by_cases e : j = i
      · subst e; simpa using hb
      · exact hc j (by omega)
    refine Weak.list [] rfl (by rfl) ?_ .nil
    ((repeat' first | exact TLes.nil | refine TLes.cons (TLe.eq rfl) ?_ | refine TLes.cons (TLe.int ?_) ?_); (all_goals first | ((try (simp only [underG, true_and, and_true, Bool.cond_true_left, Bool.cond_false_left, Bool.cond_true_right, Bool.cond_false_right, Bool.or_eq_true, Bool.and_eq_true, Bool.or_eq_false_iff, Bool.and_eq_false_iff, cond_true, cond_false, Bool.not_eq_eq_eq_not, Bool.not_true, Bool.not_false, decide_eq_true_eq, decide_eq_false_iff_not, Int.toNat_natCast, Nat.zero_add, Decidable.not_not, maxL, inn_iff] at *)); exact wrap64 (by omega) (by omega)) | skip))
  · refine ⟨_, rfl, Rel.bool ?_⟩
    symm; rw [decide_eq_true_eq]
    exact list_ext_getD false hlen (fun j hj => hc j (by simp only [underG, true_and, and_true, Bool.cond_true_left, Bool.cond_false_left, Bool.cond_true_right, Bool.cond_false_right, Bool.or_eq_true, Bool.and_eq_true, Bool.or_eq_false_iff, Bool.and_eq_false_iff, cond_true, cond_false, Bool.not_eq_eq_eq_not, Bool.not_true, Bool.not_false, decide_eq_true_eq, decide_eq_false_iff_not, Int.toNat_natCast, Nat.zero_add, Decidable.not_not, maxL, inn_iff] at *; omega))
theorem outL_no {m : Module} (h : rightB m = false) : outL m = [] ∧ ∀ ops, doL ops m = [] := by simp [outL, doL, spreadL, h]
theorem c_ThrowsRight (m : Module) : FC Try.prog 3 [.agg (encMod m)] (.bool true) := by
  refine FC_intro tok Try.func3 rfl (by decide +kernel) (Nat.le_of_ble_eq_true rfl) ?_
  (repeat' first | refine AWp_seq ?_ | (refine AWp_reg tok (by rfl) ?_; conv => whnf))
  refine .inl ⟨_, _, _, uG (QC.fc c_awake12 rfl), ?_⟩
  conv => whnf
  (repeat' first | refine AWp_seq ?_ | (refine AWp_reg tok (by rfl) ?_; conv => whnf) | (refine AWp_skip ?_; conv => whnf) | (refine AWp_ret ?_; conv => whnf) | refine AWp_cond rfl (fun hb => ?_) (fun hb => ?_))
  · cases hb
  refine .inl ⟨_, _, _, uG (QC.fc (c_Short m) rfl), ?_⟩
  conv => whnf
  (repeat' first | refine AWp_seq ?_ | (refine AWp_reg tok (by rfl) ?_; conv => whnf) | (refine AWp_any tok mix (by rfl) ?_; conv => whnf) | (refine AWp_skip ?_; conv => whnf) | (refine AWp_ret ?_; conv => whnf) | refine AWp_cond rfl (fun hb => ?_) (fun hb => ?_))
  · exact ⟨_, rfl, Rel.bool rfl⟩
  refine .inl ⟨_, _, _, uG (QC.fo (rd := []) (c_tOut m) (Ress.imms rfl) (.inl rfl) rfl), ?_⟩
  conv => whnf
  skip
  refine .inl ⟨_, _, _, uG (QC.fo (rd := []) (c_Tells m) (Ress.imms rfl) (.inl rfl) rfl), ?_⟩
  conv => whnf
  skip
  refine .inl ⟨_, _, _, uG (QC.fo (rd := []) (c_Writes m) (Ress.imms rfl) (.inl rfl) rfl), ?_⟩
  conv => whnf
  (repeat' first | refine AWp_seq ?_ | (refine AWp_reg tok (by rfl) ?_; conv => whnf))
  refine .inl ⟨_, _, _, uG (QC.fc (c_Right m) rfl), ?_⟩
  conv => whnf
  (repeat' first | refine AWp_seq ?_ | (refine AWp_reg tok (by rfl) ?_; conv => whnf) | (refine AWp_skip ?_; conv => whnf) | (refine AWp_ret ?_; conv => whnf) | refine AWp_cond rfl (fun hb => ?_) (fun hb => ?_))
  · refine ⟨_, rfl, Rel.bool ?_⟩
    obtain ⟨e1, e2⟩ := outL_no (m := m) (by simpa using hb)
    rw [e1, e2, e2]; rfl
  have hr : rightB m = true := by simpa using hb
  refine .inl ⟨_, _, _, uG (QC.fo (rd := []) (c_rOut m hr) (Ress.imms rfl) (.inl rfl) rfl), ?_⟩
  conv => whnf
  skip
  refine .inl ⟨_, _, _, uG (QC.sc (rd := [(12, 0, 0), (35, 0, 0)]) (c_Bools (outL m) (outL m)) (.cons (.row rfl (memI_iff.1 rfl) rfl rfl (fun _ _ => rfl)) (.cons (.row rfl (memI_iff.1 rfl) rfl rfl (fun _ _ => rfl)) .nil)) rfl), ?_⟩
  conv => whnf
  skip
  refine .inl ⟨_, _, _, uG (QC.fo (rd := [(40, 0, 0)]) (c_rDoes m [12, 13] hr) (.cons (.imm rfl) (.cons (.row rfl (memI_iff.1 rfl) rfl rfl (ltS rfl (ltS rfl lt0))) .nil)) (.inr (fun _ _ => rfl)) rfl), ?_⟩
  conv => whnf
  skip
  refine .inl ⟨_, _, _, uG (QC.sc (rd := [(14, 0, 0), (41, 0, 0)]) (c_Bools (doL [12, 13] m) (doL [12, 13] m)) (.cons (.row rfl (memI_iff.1 rfl) rfl rfl (fun _ _ => rfl)) (.cons (.row rfl (memI_iff.1 rfl) rfl rfl (fun _ _ => rfl)) .nil)) rfl), ?_⟩
  conv => whnf
  skip
  refine .inl ⟨_, _, _, uG (QC.fo (rd := [(47, 0, 0)]) (c_rDoes m [10] hr) (.cons (.imm rfl) (.cons (.row rfl (memI_iff.1 rfl) rfl rfl (ltS rfl lt0)) .nil)) (.inr (fun _ _ => rfl)) rfl), ?_⟩
  conv => whnf
  skip
  refine .inl ⟨_, _, _, uG (QC.sc (rd := [(16, 0, 0), (48, 0, 0)]) (c_Bools (doL [10] m) (doL [10] m)) (.cons (.row rfl (memI_iff.1 rfl) rfl rfl (fun _ _ => rfl)) (.cons (.row rfl (memI_iff.1 rfl) rfl rfl (fun _ _ => rfl)) .nil)) rfl), ?_⟩
  conv => whnf
  (repeat' (refine AWp_ret ?_; conv => whnf))
  refine ⟨_, rfl, Rel.bool ?_⟩
  simp
end Go.Proofs.Ytmanpbgaihdalaa
namespace Go.Proofs.Ytmanpbgaihdalaa
open Go Dv
set_option maxRecDepth 10000
set_option linter.unusedSimpArgs false
def retEnd : End := ⟨1, 0, 0, 0, [], 0, 0, 0⟩
def awI : Module := ⟨[⟨0, 3, [⟨false, nilPad, [⟨11, 0, 0, 0, 0, 1, [2]⟩], retEnd⟩]⟩, ⟨1, 2, [⟨false, nilPad, [⟨1, 1, 0, 0, 1, 0, []⟩, ⟨3, 0, 0, 1, 0, 0, []⟩], retEnd⟩]⟩]⟩
def awIF : Func := ⟨0, 5, [⟨false, nilPad, [⟨2, 3, 2, 0, 0, 0, []⟩, ⟨1, 4, 0, 0, 0, 0, []⟩, ⟨1, 4, 0, 0, 1, 0, []⟩, ⟨3, 3, 3, 4, 0, 0, []⟩, ⟨2, 0, 3, 0, 0, 0, []⟩], retEnd⟩]⟩
def awIG : Func := ⟨1, 2, [⟨false, nilPad, [⟨1, 1, 0, 0, 1, 0, []⟩, ⟨3, 0, 0, 1, 0, 0, []⟩], retEnd⟩]⟩
set_option maxHeartbeats 2000000 in
theorem c_awake23 : FC Try.prog 39 [] (.bool true) := by
  refine FC_intro tok Try.func39 rfl (by decide +kernel) (Nat.le_of_ble_eq_true rfl) ?_
  (repeat' ((fail_if_success (show AWp _ _ _ (Code.region 3 _ _) _ _)); first | refine AWp_seq ?_ | (refine AWp_reg tok (by rfl) ?_; conv => whnf)))
  refine AWp_weak (Weak.fam (tl := [(2, .bp (2, 0, 0) 0)]) (hl := [((2, 0, 0), .row true 1 1 (fun _ => encMod awI))]) (F := noH) [] rfl (fun i hi => by cases hi) (.cons (.bp rfl rfl) .nil) (.old rfl rfl (GB.one ?_ (fun _ => rfl)) .nil) noF (fun i hi => by cases hi)) ?_
  · (repeat' first | exact GVs.nil | exact lt0 | refine ltS ?_ ?_ | ((conv => arg 4; whnf); (conv => arg 5; whnf); first | refine GVs.cons (GV.imm rfl) ?_ | refine GVs.cons (GV.wk rfl (.nsl rfl)) ?_ | refine GVs.cons (GV.frz (hd_no rfl) rfl (Nat.le_of_ble_eq_true rfl) rfl ?_ ?_) ?_) | exact (show immDs _ = true from rfl))
  have h1 : FC Try.prog 40 [.agg (encMod awI)] (.tup [.agg (encMod ⟨[awIF, awIG]⟩), iv 0]) := by
    have := c_iModule awI
    rw [show moduleI awI = ⟨[awIF, awIG]⟩ from by decide +kernel, show errM awI = 0 from by decide +kernel] at this; exact this
  have h2 : FC Try.prog 41 [.agg (encMod awI), iv 0] (.agg (encFunc awIF)) := by
    have := c_iFunc awI 0
    rw [show funcI awI 0 = awIF from by decide +kernel] at this; exact this
  have h3 : FC Try.prog 44 [.agg (encFunc awIF), .agg (encFunc awIF)] (.bool true) := by
    have := c_rSameFunc awIF awIF
    rw [show decide (awIF = awIF) = true from by decide +kernel] at this; exact this
  have h4 : FC Try.prog 42 [.agg (encFunc awIG)] (.bool true) := by
    have := c_Small awIG
    rw [show smallF awIG = true from by decide +kernel] at this; exact this
  have e1 : awIF.blocks.length = 1 := rfl
  have e2 : (awIF.blocks.getD (Int.toNat 0) default).ins.length = 5 := rfl
  have e3 : ([awIF, awIG] : List Func).length = 2 := rfl
  have e4 : awI.funcs.length = 2 := rfl
  (repeat' (refine AWp_reg tok (by rfl) ?_; conv => whnf))
  refine .inl ⟨_, _, _, uG (QC.fc h1 rfl), ?_⟩
  conv => whnf
  (repeat' first | refine AWp_seq ?_ | (refine AWp_reg tok (by rfl) ?_; conv => whnf))
  refine .inl ⟨_, _, _, uG (QC.fc h2 rfl), ?_⟩
  conv => whnf
  ((repeat' first | refine AWp_seq ?_ | (refine AWp_reg tok (by rfl) ?_; conv => whnf) | (refine AWp_any tok mix (by rfl) ?_; conv => whnf) | (refine AWp_skip ?_; conv => whnf) | (refine AWp_ret ?_; conv => whnf) | refine AWp_cond rfl (fun hb => ?_) (fun hb => ?_) | (refine @And.intro (underG _ _ _ _) _ ?_ ?_; rotate_left; (conv => whnf); rotate_right)); all_goals (try ((guard_target = underG _ _ _ _); ((refine underG_some ?_; intro hgd; (conv at hgd => whnf); (try simp (disch := omega) only [wrap64] at hgd))); (all_goals (try simp only [underG, true_and, and_true, Bool.cond_true_left, Bool.cond_false_left, Bool.cond_true_right, Bool.cond_false_right, Bool.or_eq_true, Bool.and_eq_true, Bool.or_eq_false_iff, Bool.and_eq_false_iff, cond_true, cond_false, Bool.not_eq_eq_eq_not, Bool.not_true, Bool.not_false, decide_eq_true_eq, decide_eq_false_iff_not, Int.toNat_natCast, Nat.zero_add, Decidable.not_not, maxL, inn_iff] at *)); all_goals omega)))
  · simp at hb
  clear hb
  refine .inl ⟨_, _, _, uG (QC.fc h3 rfl), ?_⟩
  conv => whnf
  ((repeat' (refine @And.intro (underG _ _ _ _) _ ?_ ?_; rotate_left; (conv => whnf); rotate_right)); all_goals (try ((guard_target = underG _ _ _ _); ((refine underG_some ?_; intro hgd; (conv at hgd => whnf); (try simp (disch := omega) only [wrap64] at hgd))); (all_goals (try simp only [underG, true_and, and_true, Bool.cond_true_left, Bool.cond_false_left, Bool.cond_true_right, Bool.cond_false_right, Bool.or_eq_true, Bool.and_eq_true, Bool.or_eq_false_iff, Bool.and_eq_false_iff, cond_true, cond_false, Bool.not_eq_eq_eq_not, Bool.not_true, Bool.not_false, decide_eq_true_eq, decide_eq_false_iff_not, Int.toNat_natCast, Nat.zero_add, Decidable.not_not, maxL, inn_iff] at *)); all_goals omega)))
  refine .inl ⟨_, _, _, uG (QC.fc h4 rfl), ?_⟩
  conv => whnf
  (repeat' (refine AWp_ret ?_; conv => whnf))
  exact ⟨_, rfl, Rel.bool rfl⟩
end Go.Proofs.Ytmanpbgaihdalaa
