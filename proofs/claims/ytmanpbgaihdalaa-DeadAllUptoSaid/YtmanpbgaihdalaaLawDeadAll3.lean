/- A function of a cleared module stays when it is cleared, and a block put behind all others that nobody names goes again. -/
import Derived.Test.YtmanpbgaihdalaaDvc3
import Derived.Test.YtmanpbgaihdalaaLawDeadAll2
import Derived.Test.YtmanpbgaihdalaaRows
import Derived.WalkKit
import Derived.ProofKit
import Derived.OpenShut
import Derived.JoinedCond
set_option linter.unusedVariables false
set_option linter.unusedSimpArgs false
set_option linter.unnecessarySimpa false
namespace Go.Proofs.Ytmanpbgaihdalaa
open Go Dv
set_option maxRecDepth 10000
set_option linter.unusedSimpArgs false
theorem Zet {α : Type} {l : List α} {x : α} (d : α) : x ∈ l ↔ ∃ i, i < l.length ∧ l.getD i d = x := by
  constructor
  · intro h
    obtain ⟨i, hi, rfl⟩ := List.getElem_of_mem h
    exact ⟨i, hi, Zbm d hi⟩
  · rintro ⟨i, hi, rfl⟩
    rw [Zbm d hi]; exact List.getElem_mem hi
theorem Zex {b : Zbd} {y : Int} : y ∈ Zcj b ↔ (∃ j, j < b.ins.length ∧ (b.ins.getD j default).op = 11 ∧ (b.ins.getD j default).f = y) ∨ (b.fin.kind = 4 ∧ b.fin.f = y) := by
  unfold Zcj Zaz
  rw [List.mem_append, List.mem_map]
  refine or_congr ⟨?_, ?_⟩ ?_
  · rintro ⟨x, hx, rfl⟩
    rw [List.mem_filter] at hx
    obtain ⟨j, hj, e⟩ := (Zet default).1 hx.1
    exact ⟨j, hj, by rw [e]; simpa using hx.2, by rw [e]⟩
  · rintro ⟨j, hj, h1, rfl⟩
    exact ⟨_, List.mem_filter.2 ⟨(Zet default).2 ⟨j, hj, rfl⟩, by simpa using h1⟩, rfl⟩
  · by_cases h : b.fin.kind = 4
    · simp [h, eq_comm]
    · simp [h]
theorem funCalls_mem {l : List Zbd} {y : Int} : y ∈ Zal l ↔ ∃ i, i < l.length ∧ y ∈ Zcj (l.getD i default) := by
  unfold Zal
  rw [List.mem_flatMap]
  constructor
  · rintro ⟨b, hb, h⟩
    obtain ⟨i, hi, e⟩ := (Zet default).1 hb
    exact ⟨i, hi, by rw [e]; exact h⟩
  · rintro ⟨i, hi, h⟩
    exact ⟨_, (Zet default).2 ⟨i, hi, rfl⟩, h⟩
theorem r13_calls {f : Func} {y : Int} (h : y ∈ Zal (Zbj f).blocks) : y ∈ Zal f.blocks := by
  rw [funCalls_mem] at h ⊢
  obtain ⟨i, hi, hy⟩ := h
  obtain ⟨n, hn, e1, e2, e3⟩ := ref13_from hi
  refine ⟨n, hn, ?_⟩
  rw [Zex] at hy ⊢
  rw [e1, e2, e3] at hy
  exact hy
theorem right_calls {m : Zay} (hr : Zdf m = true) {n : Nat} (hn : n < m.funcs.length) {y : Int} (h : y ∈ Zal (m.funcs.getD n default).blocks) : 0 ≤ y ∧ y < m.funcs.length := by
  rw [funCalls_mem] at h
  obtain ⟨i, hi, hy⟩ := h
  have hok := blk_ok (func_blocks (Zfk hr hn) hi)
  rcases Zex.1 hy with ⟨j, hj, h1, rfl⟩ | ⟨h4, rfl⟩
  · exact hok.ins j hj h1
  · exact hok.fn h4
theorem clr_calls {m : Zay} (hr : Zdf m = true) {n : Nat} (hn : n < m.funcs.length) {y : Int} (h : y ∈ Zal ((clrM m).funcs.getD n default).blocks) : 0 ≤ y ∧ y < m.funcs.length := by
  rw [clrM_at hn] at h
  exact right_calls hr hn (r13_calls h)
theorem sum_leC {n c : Nat} {f : Nat → Nat} (h : ∀ i, i < n → f i ≤ c) : ((List.range n).map f).sum ≤ n * c := by
  induction n with
  | zero => simp
  | succ n ih =>
    rw [List.range_succ, List.map_append, List.sum_append, Nat.succ_mul]
    have h1 := ih (fun i hi => h i (by omega))
    have h2 := h n (Nat.lt_succ_self n)
    simp only [List.map_cons, List.map_nil, List.sum_cons, List.sum_nil]
    omega
theorem funCalls_len {l : List Zbd} (h : ∀ i, i < l.length → (l.getD i default).ins.length ≤ 64) : (Zal l).length ≤ l.length * 65 := by
  induction l with
  | nil => simp [Zal]
  | cons b l ih =>
    have h0 := h 0 (Nat.zero_lt_succ _)
    have h1 := ih (fun i hi => h (i + 1) (Nat.succ_lt_succ hi))
    have : Zal (b :: l) = Zcj b ++ Zal l := by unfold Zal; rw [List.flatMap_cons]
    rw [this, List.length_append, List.length_cons, Nat.succ_mul]
    have hb : (Zcj b).length ≤ 65 := by
      unfold Zcj Zaz
      rw [List.length_append, List.length_map]
      have h2 := List.length_filter_le (fun x : Ins => decide (x.op = 11)) b.ins
      have h3 : b.ins.length ≤ 64 := h0
      split <;> simp <;> omega
    omega
theorem r13_le (f : Func) : (Zbj f).blocks.length ≤ f.blocks.length := by
  unfold Zbj
  split
  · exact keptB_le f _ _
  · exact Nat.le_refl _
theorem Zer {m : Zay} (hr : Zdf m = true) : 1 ≤ m.funcs.length ∧ m.funcs.length ≤ 16 ∧ ∀ n, n < m.funcs.length → (m.funcs.getD n default).blocks.length ≤ 64 ∧ ∀ i, i < (m.funcs.getD n default).blocks.length → ((m.funcs.getD n default).blocks.getD i default).ins.length ≤ 64 := by
  have h := hr
  unfold Zdf at h
  rw [Bool.and_eq_true, decide_eq_true_eq] at h
  refine ⟨h.1.1, h.1.2.1, fun n hn => ⟨?_, fun i hi => ?_⟩⟩
  · have hF := Zfk hr hn
    unfold funcB at hF
    rw [Bool.and_eq_true, decide_eq_true_eq] at hF
    exact hF.1.2.2.2.2.2.1
  · have hB := func_blocks (Zfk hr hn) hi
    unfold blkB at hB
    rw [Bool.and_eq_true, decide_eq_true_eq] at hB
    exact hB.1.1
theorem clr_wt {m : Zay} (hr : Zdf m = true) : wt (clrM m).funcs (List.replicate (clrM m).funcs.length false) + 1 ≤ 4294967296 := by
  obtain ⟨_, h16, hb⟩ := Zer hr
  have hl := clrM_len m
  have h1 : wt (clrM m).funcs (List.replicate (clrM m).funcs.length false) ≤ (clrM m).funcs.length * 4161 := by
    unfold wt
    refine sum_leC fun i hi => ?_
    rw [hl] at hi
    obtain ⟨hb1, hb2⟩ := hb i hi
    rw [clrM_at hi]
    have h2 := funCalls_len (l := (Zbj (m.funcs.getD i default)).blocks) (fun k hk => by
      obtain ⟨n, hn, e1, _⟩ := ref13_from hk
      rw [e1]; exact hb2 n hn)
    have h3 := r13_le (m.funcs.getD i default)
    cases (List.replicate (clrM m).funcs.length false).getD i false with
    | true => simp
    | false => simp only [cond_false]; omega
  rw [hl] at h1
  rw [hl]
  omega
theorem addN_mem {o : List Int} {k x : Int} : x ∈ addN o k ↔ x ∈ o ∨ x = k := by
  unfold addN
  split
  · rename_i h
    refine ⟨.inl, fun h2 => h2.elim id (fun e => e ▸ h)⟩
  · simp
theorem Zfd {x : Int} : ∀ {l o : List Int}, x ∈ addAll o l ↔ x ∈ o ∨ x ∈ l
  | [], o => by simp [addAll]
  | y :: l, o => by
      show x ∈ addAll (addN o y) l ↔ _
      rw [Zfd, addN_mem, List.mem_cons, or_assoc]
theorem addN_pre {o : List Int} {k : Int} {i : Nat} (hi : i < o.length) : (addN o k).getD i 0 = o.getD i 0 := by
  unfold addN
  split
  · rfl
  · simp [List.getD_eq_getElem?_getD, List.getElem?_append_left hi]
theorem addAll_pre {i : Nat} : ∀ {l o : List Int}, i < o.length → (addAll o l).getD i 0 = o.getD i 0
  | [], _, _ => rfl
  | y :: l, o, hi => by
      show (addAll (addN o y) l).getD i 0 = _
      rw [addAll_pre (Nat.lt_of_lt_of_le hi (addN_len o y)), addN_pre hi]
theorem doesCall_iff {f : Func} {k : Int} : doesCall f k = true ↔ k ∈ Zal f.blocks := by
  unfold doesCall Zal
  rw [List.any_eq_true, List.mem_flatMap]
  refine exists_congr fun b => and_congr_right fun _ => ?_
  unfold blkCall insCall endCall Zcj Zaz
  rw [Bool.or_eq_true, List.any_eq_true, List.mem_append, List.mem_map]
  refine or_congr (exists_congr fun x => ?_) ?_
  · rw [List.mem_filter, and_assoc]
    refine and_congr_right fun _ => ?_
    cases decide (x.op = 11) <;> simp
  · by_cases h : b.fin.kind = 4
    · simp [h, eq_comm]
    · simp [h]
theorem ofL_iff {m : Zay} {n x : Int} (h0 : 0 ≤ n) (hn : n < m.funcs.length) : x ∈ ofL m n ↔ 0 ≤ x ∧ x < m.funcs.length ∧ x ∈ Zal (m.funcs.getD n.toNat default).blocks := by
  unfold ofL ofN
  rw [List.mem_map]
  have hin : inn n m.funcs.length = true := (Zab _ _).2 ⟨h0, hn⟩
  constructor
  · rintro ⟨k, hk, rfl⟩
    rw [List.mem_filter, List.mem_range] at hk
    have h2 := hk.2
    unfold ofK at h2
    rw [hin] at h2
    exact ⟨Int.natCast_nonneg k, Int.ofNat_lt.2 hk.1, doesCall_iff.1 h2⟩
  · rintro ⟨hx0, hx1, hx⟩
    refine ⟨x.toNat, List.mem_filter.2 ⟨List.mem_range.2 (by omega), ?_⟩, by simp; omega⟩
    unfold ofK
    rw [hin]
    have : ((x.toNat : Nat) : Int) = x := by omega
    rw [this]; exact doesCall_iff.2 hx
structure TG (m : Zay) (i : Nat) (o : List Int) : Prop where
  good : GoodL m o
  snd : ∀ x ∈ o, CR m.funcs x.toNat
  fst : ∀ x ∈ ofL m 0, x ∈ o
  cls : ∀ p, p < i → p < o.length → ∀ x ∈ ofL m (o.getD p 0), x ∈ o
theorem TG.step {m : Zay} {i : Nat} {o : List Int} (h : TG m i o) (hi : i < o.length) : TG m (i + 1) (addAll o (ofL m (o.getD i 0))) := by
  have hmem : o.getD i 0 ∈ o := (Zet 0).2 ⟨i, hi, rfl⟩
  have hr := h.good.rg _ hmem
  refine ⟨addAll_good h.good (fun x hx => ofL_mem hx), fun x hx => ?_, fun x hx => Zfd.2 (.inl (h.fst x hx)), fun p hp hpl x hx => ?_⟩
  · rcases Zfd.1 hx with h1 | h1
    · exact h.snd x h1
    · exact .step (h.snd _ hmem) (by omega) ((ofL_iff hr.1 hr.2).1 h1).2.2
  · by_cases e : p < o.length
    · rw [addAll_pre e] at hx
      by_cases e2 : p = i
      · subst e2; exact Zfd.2 (.inr hx)
      · exact Zfd.2 (.inl (h.cls p (by omega) e x hx))
    · omega
theorem TG.run {m : Zay} : ∀ (f i : Nat) (o : List Int), TG m i o → m.funcs.length < i + f → ∃ i', (toGo m f i o).length ≤ i' ∧ TG m i' (toGo m f i o)
  | 0, i, o, h, hf => by
      have : ¬ i < o.length := by have := h.good.le; omega
      rw [toGo_end this]; exact ⟨i, by omega, h⟩
  | f + 1, i, o, h, hf => by
      by_cases hi : i < o.length
      · rw [toGo_step hi (Nat.succ_pos f)]
        exact TG.run f (i + 1) _ (h.step hi) (by omega)
      · rw [toGo_end hi]; exact ⟨i, by omega, h⟩
theorem toL_spec {m : Zay} (h0 : 0 < m.funcs.length) : ∃ i, (toL m 0).length ≤ i ∧ TG m i (toL m 0) := by
  unfold toL
  refine TG.run _ 0 _ ⟨ofL_good m 0, fun x hx => ?_, fun x hx => hx, fun p hp => absurd hp (Nat.not_lt_zero p)⟩ (by omega)
  exact .step (.zero h0) h0 ((ofL_iff (Int.le_refl 0) (by omega)).1 hx).2.2
open Classical in
theorem stay_used {m : Zay} (hr : Zdf m = true) : usedL (clrM m).funcs = Zc4 m := by
  have hl := clrM_len m
  have h1 := (Zer hr).1
  apply Zbl false (by rw [usedL_len, stayL_len, hl])
  intro k hk
  rw [usedL_len, hl] at hk
  rw [usedL_at (by rw [hl]; exact hk), stayL_at hk, Bool.eq_iff_iff, decide_eq_true_eq]
  obtain ⟨i, hi, ht⟩ := toL_spec (m := clrM m) (by rw [hl]; omega)
  have hcall : ∀ n, n < m.funcs.length → ∀ y ∈ Zal ((clrM m).funcs.getD n default).blocks, 0 ≤ y ∧ y < m.funcs.length := fun n hn y hy => clr_calls hr hn hy
  have key : (k = 0 ∨ (k : Int) ∈ toM m) ↔ (bif decide ((k : Int) = 0) then true else decide ((k : Int) ∈ toM m)) = true := by
    by_cases e : k = 0
    · subst e; simp
    · have : ¬ (k : Int) = 0 := by omega
      simp [this, e]
  rw [← key]
  constructor
  · intro hc
    clear key hk
    induction hc with
    | zero _ => exact .inl rfl
    | @step n x h2 h3 h4 ih =>
      have hy := hcall n (by rw [hl] at h3; exact h3) x h4
      right
      have e : ((x.toNat : Nat) : Int) = x := by omega
      rw [e]
      rcases ih with rfl | ih
      · exact ht.fst x ((ofL_iff (Int.le_refl 0) (by rw [hl]; omega)).2 ⟨hy.1, by rw [hl]; exact hy.2, h4⟩)
      · obtain ⟨p, hp, e2⟩ := (Zet 0).1 ih
        refine ht.cls p (Nat.lt_of_lt_of_le hp hi) hp x ?_
        show x ∈ ofL (clrM m) ((toM m).getD p 0)
        rw [e2]
        exact (ofL_iff (Int.natCast_nonneg n) (by omega)).2 ⟨hy.1, by rw [hl]; exact hy.2, by rw [Int.toNat_natCast]; exact h4⟩
  · rintro (rfl | h)
    · exact .zero (by rw [hl]; omega)
    · have := ht.snd _ h
      rw [Int.toNat_natCast] at this
      exact this
open Classical in
theorem stay_calls {m : Zay} (hr : Zdf m = true) {n : Nat} (hn : n < m.funcs.length) (hs : (Zc4 m).getD n false = true) {y : Int} (hy : y ∈ Zal ((clrM m).funcs.getD n default).blocks) :
    0 ≤ y ∧ y < (Zc4 m).length ∧ (Zb5 (Zc4 m)).getD y.toNat 0 = numB (Zc4 m) y.toNat := by
  have h1 := clr_calls hr hn hy
  have hl := clrM_len m
  have hsl := stayL_len m
  refine ⟨h1.1, by rw [hsl]; exact h1.2, ?_⟩
  rw [anewL_at (by rw [hsl]; omega), if_pos]
  rw [← stay_used hr] at hs ⊢
  rw [usedL_at (by rw [hl]; exact hn), decide_eq_true_eq] at hs
  rw [usedL_at (by rw [hl]; omega), decide_eq_true_eq]
  exact .step hs (by rw [hl]; exact hn) hy
end Go.Proofs.Ytmanpbgaihdalaa
namespace Go.Proofs.Ytmanpbgaihdalaa
open Go Dv
set_option maxRecDepth 10000
set_option linter.unusedSimpArgs false
end Go.Proofs.Ytmanpbgaihdalaa
namespace Go.Proofs.Ytmanpbgaihdalaa
open Go Dv
set_option maxRecDepth 10000
set_option linter.unusedSimpArgs false
end Go.Proofs.Ytmanpbgaihdalaa
namespace Go.Proofs.Ytmanpbgaihdalaa
open Go Dv
set_option maxRecDepth 10000
set_option linter.unusedSimpArgs false
end Go.Proofs.Ytmanpbgaihdalaa
namespace Go.Proofs.Ytmanpbgaihdalaa
open Go Dv
set_option maxRecDepth 10000
set_option linter.unusedSimpArgs false
end Go.Proofs.Ytmanpbgaihdalaa
namespace Go.Proofs.Ytmanpbgaihdalaa
open Go Dv
set_option maxRecDepth 10000
set_option linter.unusedSimpArgs false
theorem c_Copy0 (fs : List Func) : HF Try.prog 26 [.agg (Zba ⟨fs⟩)] (.agg [.rs (900, 0, 0) 3 0 fs.length]) (Za2 [((900, 0, 0), .row true 3 fs.length (fun j => Za1 (fs.getD j default)))]) := by
  refine (c_Copy1 fs).weak (fun j => some j) (fun j j' i _ _ h1 h2 => some_inj j j' i h1 h2) (fun j b e => ?_) (.agg (.cons (.rs (b := .row true 3 fs.length (fun j => Za1 (fs.getD j default))) rfl rfl rfl rfl) .nil))
  have hj : j = (900, 0, 0) ∧ b = .row true 3 fs.length (fun j => Za1 (fs.getD j default)) := by
    simp only [Za2] at e
    cases e2 : idEq (900, 0, 0) j with
    | false => rw [e2] at e; cases e
    | true => have := Za0.1 e2; subst this; rw [e2] at e; cases e; exact ⟨rfl, rfl⟩
  obtain ⟨rfl, rfl⟩ := hj
  refine HOk.mk rfl (b0 := funR1 fs (mem1 fs)) rfl (GB.row (Nat.le_refl _) (fun j hj => .cons (.imm rfl) (.cons (.imm rfl) (.cons ?_ .nil))) (fun _ _ _ => rfl))
  exact .frz (k := (fs.getD j default).blocks.length) (f := fun q => Za3 ((fs.getD j default).blocks.getD q default)) (imm := true) (fun j hj e => by cases e; cases hj) (modH1_at hj) (Nat.le_of_eq (Nat.zero_add _)) rfl (fun x hx => GVs.eqI rfl (by rw [Nat.zero_add])) (fun _ _ => rfl)
end Go.Proofs.Ytmanpbgaihdalaa
namespace Go.Proofs.Ytmanpbgaihdalaa
open Go Dv
set_option maxRecDepth 10000
set_option linter.unusedSimpArgs false
theorem r13_pr (f : Func) : (Zbj f).params = f.params ∧ (Zbj f).regs = f.regs := by
  unfold Zbj; split <;> exact ⟨rfl, rfl⟩
def pA (i j : Nat) : Bool := Nat.blt j i
def rA (i j _q : Nat) : Bool := Nat.blt j i
theorem keepA13 {src : Dv.Id → Option Dv.Id} {h h' : Zan} {l : List Func} {k : Nat} (h1 : ∀ j, j < k → j < l.length → h (1000, j, 0) = some (blkR j (l.getD j default).blocks (l.getD j default).blocks.length (fun _ => .any)))
    (h2 : ∀ j q, j < k → j < l.length → q < (l.getD j default).blocks.length → h (1001, j, q) = some (insR ((l.getD j default).blocks.getD q default).ins))
    (h3 : ∀ j q, j < k → j < l.length → q < (l.getD j default).blocks.length → h' (1001, j, q) = some (insR ((l.getD j default).blocks.getD q default).ins)) (hs : ∀ a b, src (1000, a, b) = some (1000, a, b) ∧ src (1001, a, b) = some (1001, a, b)) :
    ∀ j b, Zbi l (pA k) (rA k) j = some b → HOk src h h' j b := by
  intro j b e
  rcases Zb2 e with ⟨p, rfl, hp, hk, rfl⟩ | ⟨p, q, rfl, hp, hq, hk, rfl⟩
  · have hk' : p < k := by unfold pA at hk; rw [Nat.blt_eq] at hk; exact hk
    exact HOk.mk (hs p 0).1 (h1 p hk' hp) (Zcl (fun q hq => .cc (Zat hq) (Zat hq) (.rs (h3 p q hk' hp hq) (hs p q).2 rfl rfl)))
  · have hk' : p < k := by unfold rA at hk; rw [Nat.blt_eq] at hk; exact hk
    exact HOk.mk (hs p q).2 (h2 p q hk' hp hq) (Zc2 _)
theorem treeA_blk {l : List Func} {k j : Nat} (hj : j < k) (hl : j < l.length) : Zbi l (pA k) (rA k) (1000, j, 0) = some (blkR j (l.getD j default).blocks (l.getD j default).blocks.length (fun _ => .any)) := Zbu hl (by unfold pA; rw [Nat.blt_eq]; exact hj)
theorem treeA_ins {l : List Func} {k j q : Nat} (hj : j < k) (hl : j < l.length) (hq : q < (l.getD j default).blocks.length) : Zbi l (pA k) (rA k) (1001, j, q) = some (insR ((l.getD j default).blocks.getD q default).ins) := Zbp hl hq (by unfold rA; rw [Nat.blt_eq]; exact hj)
noncomputable def deadM (m : Zay) : Zay := if Zdf m = true then ref13M m else m
theorem keepG {src : Dv.Id → Option Dv.Id} {h h' : Zan} {l : List Func} {p : Nat → Bool} {r : Nat → Nat → Bool} (h1 : ∀ j, j < l.length → p j = true → h (1000, j, 0) = some (blkR j (l.getD j default).blocks (l.getD j default).blocks.length (fun _ => .any)))
    (h2 : ∀ j q, j < l.length → q < (l.getD j default).blocks.length → r j q = true → h (1001, j, q) = some (insR ((l.getD j default).blocks.getD q default).ins))
    (h3 : ∀ j q, j < l.length → q < (l.getD j default).blocks.length → p j = true → h' (1001, j, q) = some (insR ((l.getD j default).blocks.getD q default).ins)) (hs : ∀ a b, src (1000, a, b) = some (1000, a, b) ∧ src (1001, a, b) = some (1001, a, b)) :
    ∀ j b, Zbi l p r j = some b → HOk src h h' j b := by
  intro j b e
  rcases Zb2 e with ⟨a, rfl, hp, hk, rfl⟩ | ⟨a, q, rfl, hp, hq, hk, rfl⟩
  · exact HOk.mk (hs a 0).1 (h1 a hp hk) (Zcl (fun q hq => .cc (Zat hq) (Zat hq) (.rs (h3 a q hp hq hk) (hs a q).2 rfl rfl)))
  · exact HOk.mk (hs a q).2 (h2 a q hp hq hk) (Zc2 _)
abbrev treeA (l : List Func) : Zan := Zbi l (fun _ => true) (fun _ _ => true)
theorem keepTA {src : Dv.Id → Option Dv.Id} {h h' : Zan} {l : List Func} (hh : ∀ a b, h (1000, a, b) = treeA l (1000, a, b) ∧ h (1001, a, b) = treeA l (1001, a, b)) (hh' : ∀ a b, h' (1000, a, b) = treeA l (1000, a, b) ∧ h' (1001, a, b) = treeA l (1001, a, b))
    (hs : ∀ a b, src (1000, a, b) = some (1000, a, b) ∧ src (1001, a, b) = some (1001, a, b)) : ∀ j b, treeA l j = some b → HOk src h h' j b :=
  keepG (fun j hj _ => (hh j 0).1.trans (Zbu hj rfl)) (fun j q hj hq _ => (hh j q).2.trans (Zbp hj hq rfl)) (fun j q hj hq _ => (hh' j q).2.trans (Zbp hj hq rfl)) hs
def rdU (l : List Func) : List Dv.Id := u0 :: ((List.range l.length).map (fun j => (1000, j, 0)) ++ (List.range l.length).flatMap fun i => (List.range (l.getD i default).blocks.length).map fun q => (1001, i, q))
theorem res_modU {h : Zan} {l : List Func} (h0 : h u0 = some (frow l l.length (fun x => x))) (hh : ∀ a b, h (1000, a, b) = treeA l (1000, a, b) ∧ h (1001, a, b) = treeA l (1001, a, b)) : Res h (rdU l) (.agg [.rs u0 3 0 l.length]) (.agg (Zba ⟨l⟩)) := by
  have m1 : ∀ j, j < l.length → (1000, j, 0) ∈ rdU l := fun j h => by simp [rdU, h]
  have m2 : ∀ j q, j < l.length → q < (l.getD j default).blocks.length → (1001, j, q) ∈ rdU l := fun j q hj hq => by
    unfold rdU
    exact List.mem_cons_of_mem _ (List.mem_append_right _ (List.mem_flatMap.2 ⟨j, List.mem_range.2 hj, List.mem_map.2 ⟨q, List.mem_range.2 hq, rfl⟩⟩))
  refine .agg (.cons (.rsN h0 List.mem_cons_self (Nat.le_of_eq (Nat.zero_add _)) rfl (fun i hi => ?_)) .nil)
  rw [Nat.zero_add]
  refine .cons (.imm rfl) (.cons (.imm rfl) (.cons (.rsN (imm := false) (k := (l.getD i default).blocks.length) (f := fun q => blkO ((l.getD i default).blocks.getD q default) (sel (Nat.blt q (l.getD i default).blocks.length) (.rs (1001, i, q) 7 0 ((l.getD i default).blocks.getD q default).ins.length) .any)) ((hh i 0).1.trans (Zbu hi rfl)) (m1 i hi) (Nat.le_of_eq (Nat.zero_add _)) rfl (fun q hq => ?_)) .nil))
  rw [Nat.zero_add, Zat hq]
  exact .cons (.imm rfl) (.cons (.imm rfl) (.cons (.imm rfl) (.cons (.imm rfl) (.cons (.imm rfl) (.cons (.rs ((hh i q).2.trans (Zbp hi hq rfl)) (m2 i q hi hq) (Nat.le_of_eq (Nat.zero_add _)) rfl (fun x hx => by rw [Nat.zero_add])) (Ress.imms rfl))))))
theorem lookN {hl : List (Dv.Id × Zam)} {F : Zan} {i : Dv.Id} (h : (orH (Za2 hl) F i).isSome = true) : i ∈ hl.map (·.1) ∨ (F i).isSome = true := by
  unfold orH at h
  induction hl with
  | nil => exact .inr h
  | cons p r ih =>
    obtain ⟨k, b⟩ := p
    simp only [Za2] at h
    cases e : idEq k i with
    | true => have := Za0.1 e; subst this; exact .inl (by simp)
    | false =>
      rw [e] at h
      rcases ih h with h1 | h1
      · exact .inl (by simp only [List.map_cons, List.mem_cons]; exact .inr h1)
      · exact .inr h1
theorem treeA_fam {l : List Func} {j : Dv.Id} (h : (treeA l j).isSome = true) : j ∈ famIds l := by
  cases e : treeA l j with
  | none => rw [e] at h; cases h
  | some b =>
    unfold famIds
    rcases Zb2 e with ⟨i, rfl, hi, _⟩ | ⟨i, q, rfl, hi, hq, _⟩
    · exact List.mem_cons_of_mem _ (List.mem_cons_of_mem _ (List.mem_append_left _ (List.mem_map.2 ⟨i, List.mem_range.2 hi, rfl⟩)))
    · exact List.mem_cons_of_mem _ (List.mem_cons_of_mem _ (List.mem_append_right _ (List.mem_flatMap.2 ⟨i, List.mem_range.2 hi, List.mem_map.2 ⟨q, List.mem_range.2 hq, rfl⟩⟩)))
theorem keepT8 {src : Dv.Id → Option Dv.Id} {h h' : Zan} {l : List Func} {x y : AV} {i8 i9 : Bool} (hh : ∀ a b, h (1000, a, b) = Zbw l (1000, a, b) ∧ h (1001, a, b) = Zbw l (1001, a, b)) (hh' : ∀ a b, h' (1000, a, b) = Zbw l (1000, a, b) ∧ h' (1001, a, b) = Zbw l (1001, a, b))
    (hs : ∀ a b, src (1000, a, b) = some (1000, a, b) ∧ src (1001, a, b) = some (1001, a, b)) (h8 : h u8 = some (.row i8 1 1 (fun _ => [x]))) (h9 : h u9 = some (.row i9 1 1 (fun _ => [y]))) (hs8 : src u8 = some u8 := by rfl) (hs9 : src u9 = some u9 := by rfl) : ∀ j b, Zbw l j = some b → HOk src h h' j b := by
  intro j b e
  rcases treeT_some e with ⟨rfl, rfl⟩ | ⟨rfl, rfl⟩ | ⟨p, rfl, hp, rfl⟩ | ⟨p, q, rfl, hp, hq, rfl⟩
  · exact HOk.mk hs8 h8 (GB.one (.cons .any .nil) (fun e => by cases e))
  · exact HOk.mk hs9 h9 (GB.one (.cons .any .nil) (fun e => by cases e))
  · exact HOk.mk (hs p 0).1 ((hh p 0).1.trans (treeT_blk hp)) (Zcl (fun q hq => .cc (Zat hq) (Zat hq) (.rs ((hh' p q).2.trans (Zez hp hq)) (hs p q).2 rfl rfl)))
  · exact HOk.mk (hs p q).2 ((hh p q).2.trans (Zez hp hq)) (Zc2 _)
def rnm (σ : Nat → Nat) (j : Dv.Id) : Option Dv.Id := bif Nat.beq j.1 1000 then some (1000, σ j.2.1, j.2.2) else bif Nat.beq j.1 1001 then some (1001, σ j.2.1, j.2.2) else srcL [((900, 0, 0), some u0), ((1, 0, 0), some u8), ((2, 0, 0), some u9)] j
theorem rnm_inj {σ : Nat → Nat} {n : Nat} (hσ : ∀ a b, a < n → b < n → σ a = σ b → a = b) {j j' i : Dv.Id}
    (h : j = (1, 0, 0) ∨ j = (2, 0, 0) ∨ j = (900, 0, 0) ∨ (∃ a, a < n ∧ j = (1000, a, 0)) ∨ ∃ a q, a < n ∧ j = (1001, a, q)) (h' : j' = (1, 0, 0) ∨ j' = (2, 0, 0) ∨ j' = (900, 0, 0) ∨ (∃ a, a < n ∧ j' = (1000, a, 0)) ∨ ∃ a q, a < n ∧ j' = (1001, a, q))
    (e : rnm σ j = some i) (e' : rnm σ j' = some i) : j = j' := by
  have v1 : rnm σ (1, 0, 0) = some u8 := rfl
  have v2 : rnm σ (2, 0, 0) = some u9 := rfl
  have v3 : rnm σ (900, 0, 0) = some u0 := rfl
  have v4 : ∀ a b, rnm σ (1000, a, b) = some (1000, σ a, b) := fun _ _ => rfl
  have v5 : ∀ a b, rnm σ (1001, a, b) = some (1001, σ a, b) := fun _ _ => rfl
  rcases h with rfl | rfl | rfl | ⟨a, ha, rfl⟩ | ⟨a, q, ha, rfl⟩ <;> rcases h' with rfl | rfl | rfl | ⟨a', ha', rfl⟩ | ⟨a', q', ha', rfl⟩ <;> simp only [v1, v2, v3, v4, v5] at e e' <;> first
    | rfl
    | (rw [← e'] at e; exact absurd (Option.some.inj e) (by intro h; cases h))
    | skip
  · rw [← e'] at e
    have := hσ a a' ha ha' (congrArg (fun x => x.2.1) (Option.some.inj e))
    subst this; rfl
  · rw [← e'] at e
    have h1 := hσ a a' ha ha' (congrArg (fun x => x.2.1) (Option.some.inj e))
    have h2 : q = q' := congrArg (fun x => x.2.2) (Option.some.inj e)
    subst h1; subst h2; rfl
def rowN (S : List Bool) (i k : Nat) (l : List Zbd) (x : Nat → AV) : Zam := .row false 14 l.length (fun q => blkO ((mapB (renC S) l k).getD q default) (sel (Nat.blt q k) (inss (renC S (l.getD q default)).ins) (x q)))
theorem keepRowN {src : Dv.Id → Option Dv.Id} {h h' : Zan} {S : List Bool} {i k : Nat} {l : List Zbd} {x x' : Nat → AV} (hx : ∀ q, k ≤ q → q < l.length → GV src h h' (x q) (x' q)) : GB src h h' (rowN S i k l x) (rowN S i k l x') :=
  GB.row (Nat.le_refl _) (fun q hq => Zb6 (by
    by_cases e : q < k
    · exact .cc (Zat e) (Zat e) (.imm rfl)
    · exact .cc (Za9 (by omega)) (Za9 (by omega)) (hx q (by omega) hq))) (fun e => by cases e)
def insJ (S : List Bool) (l : List Ins) (j q : Nat) : Ins := bif Nat.blt q j then renI S (l.getD q default) else l.getD q default
theorem insJ_lt {S : List Bool} {l : List Ins} {j q : Nat} (h : q < j) : insJ S l j q = renI S (l.getD q default) := by unfold insJ; rw [show Nat.blt q j = true from by rw [Nat.blt_eq]; exact h]; rfl
theorem insJ_ge {S : List Bool} {l : List Ins} {j q : Nat} (h : j ≤ q) : insJ S l j q = l.getD q default := by
  unfold insJ; rw [show Nat.blt q j = false from by rw [Bool.eq_false_iff]; intro e; rw [Nat.blt_eq] at e; omega]; rfl
abbrev rowJ (S : List Bool) (l : List Ins) (j : Nat) : Zam := .row true 7 l.length (fun q => Zbs (insJ S l j q))
theorem keepX {src : Dv.Id → Option Dv.Id} {h h' : Zan} {k q n i : Nat} {l : List Zbd} {b b2 : Zam} (h902 : h' (902, 0, 0) = some b2) (hs : src (902, 0, 0) = some (902, 0, 0)) (h1 : q ≠ k → h' (1001, i, q) = some b) (hs1 : src (1001, i, q) = some (1001, i, q)) :
    GV src h h' (sel (Nat.beq q k) (.rs (902, 0, 0) 7 0 n) (ownI i l q)) (sel (Nat.beq q k) (.rs (902, 0, 0) 7 0 n) (ownI i l q)) := by
  by_cases e : q = k
  · subst e; exact .cc Zch Zch (.rs h902 hs rfl rfl)
  · exact .cc (Zd8 e) (Zd8 e) (.rs (h1 e) hs1 rfl rfl)
theorem frzJ {src : Dv.Id → Option Dv.Id} {h h' : Zan} {S : List Bool} {l : List Ins} (hd : ∀ j, (h' j).isSome = true → src j ≠ some (902, 0, 0)) (e : h (902, 0, 0) = some (rowJ S l l.length)) : GV src h h' (.rs (902, 0, 0) 7 0 l.length) (inss (l.map (renI S))) := by
  refine .frz hd e (Nat.le_of_eq (Nat.zero_add _)) (List.length_map _).symm (fun x hx => GVs.eqI rfl ?_) (fun _ _ => rfl)
  rw [Nat.zero_add, insJ_lt hx]
  have : (l.map (renI S)).getD x default = renI S (l.getD x default) := by
    rw [List.getD_eq_getElem?_getD, List.getElem?_map, List.getElem?_eq_getElem hx, Zbm default hx]; rfl
  rw [this]
set_option maxHeartbeats 8000000 in
theorem c_dModule (m : Zay) : FC Try.prog 58 [.agg (Zba m)] (.tup [.agg (Zba (deadM m)), iv (errM m)]) := by
  obtain ⟨fs⟩ := m
  refine Za5 tok Try.func58 rfl (by decide +kernel) (Nat.le_of_ble_eq_true rfl) ?_
  refine Zau 0 (fun hl => ?_)
  have hl0 : fs.length ≤ maxL := hl.1.1
  have hmx : maxL = 4294967296 := rfl
  have hl1 : ∀ i, i < fs.length → (fs.getD i default).blocks.length ≤ maxL := fun i hi => (hl.1.2 i hi).2.2.1.1
  have hl2 : ∀ i, i < fs.length → ∀ q, q < (fs.getD i default).blocks.length → ((fs.getD i default).blocks.getD q default).ins.length ≤ maxL := fun i hi q hq => ((hl.1.2 i hi).2.2.1.2 q hq).2.2.2.2.2.1.1
  clear hl
  cases hr : Zdf ⟨fs⟩ with
  | false =>
    (repeat' first | refine Zad ?_ | (refine Zac tok (by rfl) ?_; conv => whnf))
    refine .inl ⟨_, _, _, uG (QC.fc (c_CopyF ⟨fs⟩) rfl), ?_⟩
    conv => whnf
    (repeat' first | refine Zad ?_ | (refine Zac tok (by rfl) ?_; conv => whnf))
    refine .inl ⟨_, _, _, uG (QC.fc (c_lRight c_lpad ⟨fs⟩) rfl), ?_⟩
    conv => whnf
    (repeat' first | refine Zad ?_ | (refine Zac tok (by rfl) ?_; conv => whnf) | refine Zaf ?_ | (refine Zai ?_; conv => whnf) | (refine Zak ?_; conv => whnf) | refine Zah rfl (fun hb => ?_) (fun hb => ?_))
    · refine ⟨_, rfl, Rel.tup (.cons (Rel.agg ?_) (.cons (Rel.int (by simp [errM, hr])) .nil))⟩
      rw [show deadM ⟨fs⟩ = ⟨fs⟩ from by simp [deadM, hr]]
      exact Rels.imm rfl
    · rw [hr] at hb; cases hb
  | true =>
  have hgl : (clrM ⟨fs⟩).funcs.length = fs.length := clrM_len ⟨fs⟩
  have hga : ∀ i, i < fs.length → (clrM ⟨fs⟩).funcs.getD i default = Zbj (fs.getD i default) := fun i hi => clrM_at hi
  have hgen : ∃ gs, (clrM ⟨fs⟩).funcs = gs := ⟨_, rfl⟩
  obtain ⟨gs, hgs⟩ := hgen
  rw [hgs] at hgl
  simp only [hgs] at hga
  (repeat' first | refine Zad ?_ | (refine Zac tok (by rfl) ?_; conv => whnf))
  refine .inr ⟨_, _, _, uG (QH.ofF (c_Copy0 fs) rfl (fun i hi => by
    have : i = (900, 0, 0) := by
      simp only [Za2] at hi
      cases e2 : idEq (900, 0, 0) i with
      | false => rw [e2] at hi; cases hi
      | true => exact (Za0.1 e2).symm
    subst this; rfl)), ?_⟩
  conv => whnf
  (repeat' first | refine Zad ?_ | (refine Zac tok (by rfl) ?_; conv => whnf))
  refine .inl ⟨_, _, _, uG (QC.sc (rd := [(900, 0, 0)]) (c_lRight c_lpad ⟨fs⟩) (.cons (.agg (.cons (.row rfl (.head _) rfl rfl (fun _ _ => rfl)) .nil)) .nil) rfl), ?_⟩
  conv => whnf
  (repeat' ((fail_if_success (show AWp _ _ _ (Code.region 4 _ _) _ _)); first | refine Zad ?_ | (refine Zac tok (by rfl) ?_; conv => whnf) | (refine Zai ?_; conv => whnf) | (refine Zak ?_; conv => whnf) | refine Zah rfl (fun hb => ?_) (fun hb => ?_)))
  · exfalso; rw [hr] at hb; cases hb
  clear hb
  (repeat' ((fail_if_success (show AWp _ _ _ (Code.region 5 _ _) _ _)); first | (refine Zac tok (by rfl) ?_; conv => whnf) | refine Zaf ?_))
  refine Zas (fun i : Nat => mkF [(1, .bp (1, 0, 0) 0), (2, .bp (2, 0, 0) 0), (21, iv fs.length), (22, iv i)] [((1, 0, 0), .row false 1 1 (fun _ => [.rs (900, 0, 0) 3 0 fs.length])), ((2, 0, 0), Zaw [.nsl]), ((900, 0, 0), .row false 3 fs.length (fun q => [iv (fs.getD q default).params, iv (fs.getD q default).regs, sel (Nat.blt q i) (mem1 gs q) (Zbk (fs.getD q default).blocks)]))] (Zbi gs (pA i) (rA i))) (fun i => i ≤ fs.length) (fun i => fs.length - i) 0 (Nat.zero_le _) ?_ ?_
  · refine Weak.fam [] rfl (fun i hi => by cases hi) ?_ ?_ (keepA13 (fun j h => absurd h (Nat.not_lt_zero j)) (fun j q h => absurd h (Nat.not_lt_zero j)) (fun j q h => absurd h (Nat.not_lt_zero j)) (fun _ _ => ⟨rfl, rfl⟩)) (fun i hi => by cases hi)
    · exact .cons (.bp rfl rfl) (.cons (.bp rfl rfl) (.cons (.imm rfl) (.cons (.imm rfl) .nil)))
    · refine .old rfl rfl (GB.one (.cons (.rs rfl rfl rfl rfl) .nil) (fun e => by cases e)) (.old rfl rfl (GB.one (GVs.imm rfl) (fun _ => rfl)) (.old rfl rfl (GB.row (Nat.le_refl _) (fun q hq => .cons (.imm rfl) (.cons (.imm rfl) (.cons ?_ .nil))) (fun e => by cases e)) .nil))
      exact .cc rfl (Za9 (Nat.zero_le _)) (.imm rfl)
  intro i hi
  (repeat' ((fail_if_success (show AWp _ _ _ (Code.region 7 _ _) _ _)); (fail_if_success (show AWp _ _ _ (Code.region 9 _ _) _ _)); first | refine Zad ?_ | (refine Zac tok (by rfl) ?_; conv => whnf) | refine Zaf ?_ | (refine Zai ?_; conv => whnf) | (refine Zar ?_; conv => whnf) | refine Zah rfl (fun hb => ?_) (fun hb => ?_)))
  · have hlt : i < fs.length := by simp only [decide_eq_true_eq] at hb; omega
    clear hb
    have hzi : 0 + (i : Int).toNat = i := by simp
    have hrp := r13_pr (fs.getD i default)
    have hgi := hga i hlt
    refine AWp_soft tok mix (by rfl) [0, 1, 2, 3, 4, 5, 6, 7, 9] 20 (by rfl) (by rfl) (by rfl) ?_
    conv => whnf
    repeat' first
      | (refine @And.intro (Zaa _ _ _ _) _ ?_ ?_; rotate_left; (conv => whnf); rotate_right)
      | (guard_target = And _ _; refine @And.intro (gOp _ _ _ _ _ _ _ _ _) _ (by (conv => whnf); exact ⟨rfl, rfl⟩) ?_; conv => whnf)
      | (guard_target = And _ _; refine And.intro ?_ ?_ <;> (conv => whnf))
    all_goals (try ((guard_target = Zaa _ _ _ _); refine Zae ?_; (all_goals (try simp only [Zaa, kzz, kz11, kz12, maxL, Zab] at *)); all_goals omega))
    refine fAV (y := Zbk (fs.getD (0 + (i : Int).toNat) default).blocks) ?_ ?_
    · rw [hzi, Za9 (Nat.le_refl _)]
    conv => whnf
    repeat' first
      | (refine @And.intro (Zaa _ _ _ _) _ ?_ ?_; rotate_left; (conv => whnf); rotate_right)
      | (guard_target = And _ _; refine @And.intro (gOp _ _ _ _ _ _ _ _ _) _ (by (conv => whnf); exact ⟨rfl, rfl⟩) ?_; conv => whnf)
      | (guard_target = And _ _; refine And.intro ?_ ?_ <;> (conv => whnf))
    all_goals (try ((guard_target = Zaa _ _ _ _); refine Zae ?_; (all_goals (try simp only [Zaa, kzz, kz11, kz12, maxL, Zab] at *)); all_goals omega))
    have hcall : HF Try.prog 59 [.agg (Za1 (fs.getD (0 + (i : Int).toNat) default))] (.agg [iv (Zbj (fs.getD i default)).params, iv (Zbj (fs.getD i default)).regs, .rs (1000, i, 0) 14 0 (Zbj (fs.getD i default)).blocks.length]) (Zc0 i (Zbj (fs.getD i default))) := by
      rw [hzi]; exact c_dFunc i (fs.getD i default)
    rw [← hgi] at hcall hrp
    refine .inr ⟨_, _, _, uG (QH.ofF hcall rfl (fun j hj => ?_)), ?_⟩
    · have hne : ∀ q, Zbi gs (pA i) (rA i) (1000, i, 0) = none ∧ Zbi gs (pA i) (rA i) (1001, i, q) = none := fun q => by
        constructor
        · cases e : Zbi gs (pA i) (rA i) (1000, i, 0) with
          | none => rfl
          | some b =>
            rcases Zb2 e with ⟨p, e1, _, h2, _⟩ | ⟨p, q, e1, _⟩
            · cases e1; unfold pA at h2; rw [Nat.blt_eq] at h2; omega
            · cases e1
        · cases e : Zbi gs (pA i) (rA i) (1001, i, q) with
          | none => rfl
          | some b =>
            rcases Zb2 e with ⟨p, e1, _⟩ | ⟨p, q, e1, _, _, h2, _⟩
            · cases e1
            · cases e1; unfold rA at h2; rw [Nat.blt_eq] at h2; omega
      cases e : Zc0 i (gs.getD i default) j with
      | none => rw [e] at hj; cases hj
      | some b =>
        rcases Zdt e with ⟨rfl, _⟩ | ⟨q, rfl, _⟩
        · exact (hne 0).1
        · exact (hne q).2
    conv => whnf
    repeat' first
      | (refine @And.intro (Zaa _ _ _ _) _ ?_ ?_; rotate_left; (conv => whnf); rotate_right)
      | (guard_target = And _ _; refine @And.intro (gOp _ _ _ _ _ _ _ _ _) _ (by (conv => whnf); exact ⟨rfl, rfl⟩) ?_; conv => whnf)
      | (guard_target = And _ _; refine And.intro ?_ ?_ <;> (conv => whnf))
    all_goals (try ((guard_target = Zaa _ _ _ _); refine Zae ?_; (all_goals (try simp only [Zaa, kzz, kz11, kz12, maxL, Zab] at *)); all_goals omega))
    all_goals (try rfl)
    (repeat' (refine Zac tok (by rfl) ?_; conv => whnf))
    refine ⟨i + 1, hlt, by omega, ?_⟩
    have ha1 : ∀ (h : Zan), (∀ a b, h (1000, a, b) = Zbi gs (pA i) (rA i) (1000, a, b) ∧ h (1001, a, b) = Zbi gs (pA i) (rA i) (1001, a, b)) → ∀ j, j < i + 1 → j < gs.length → bigH [] (Zc0 i (gs.getD i default)) h (1000, j, 0) = some (blkR j (gs.getD j default).blocks (gs.getD j default).blocks.length (fun _ => .any)) := fun h hh j hj hjl => by
      by_cases e : j = i
      · subst e; exact bigH_at treeI_blk
      · have : Zc0 i (gs.getD i default) (1000, j, 0) = none := by
          cases e2 : Zc0 i (gs.getD i default) (1000, j, 0) with
          | none => rfl
          | some b => rcases Zdt e2 with ⟨e1, _⟩ | ⟨q, e1, _⟩ <;> cases e1; exact absurd rfl e
        unfold bigH; rw [this, (hh j 0).1, treeA_blk (by omega) hjl]; rfl
    have ha2 : ∀ (h : Zan), (∀ a b, h (1000, a, b) = Zbi gs (pA i) (rA i) (1000, a, b) ∧ h (1001, a, b) = Zbi gs (pA i) (rA i) (1001, a, b)) → ∀ j q, j < i + 1 → j < gs.length → q < (gs.getD j default).blocks.length → bigH [] (Zc0 i (gs.getD i default)) h (1001, j, q) = some (insR ((gs.getD j default).blocks.getD q default).ins) := fun h hh j q hj hjl hq => by
      by_cases e : j = i
      · subst e; exact bigH_at (treeI_ins hq)
      · have : Zc0 i (gs.getD i default) (1001, j, q) = none := by
          cases e2 : Zc0 i (gs.getD i default) (1001, j, q) with
          | none => rfl
          | some b => rcases Zdt e2 with ⟨e1, _⟩ | ⟨q, e1, _⟩ <;> cases e1; exact absurd rfl e
        unfold bigH; rw [this, (hh j q).2, treeA_ins (by omega) hjl hq]; rfl
    refine Weak.fam [] rfl (fun i hi => by cases hi) ?_ ?_ (keepA13 ?_ ?_ (fun j q h h2 h3 => treeA_ins h h2 h3) (fun _ _ => ⟨rfl, rfl⟩)) (fun i hi => by cases hi)
    · exact .cons (.bp rfl rfl) (.cons (.bp rfl rfl) (.cons (.imm rfl) (.cons (.int (by rw [Zaj (by omega) (by omega)]; rfl)) .nil)))
    · refine .old rfl rfl (GB.one (.cons (.rs rfl rfl rfl rfl) .nil) (fun e => by cases e)) (.old rfl rfl (GB.one (GVs.imm rfl) (fun _ => rfl)) (.old rfl rfl (GB.row (Nat.le_refl _) (fun q hq => GVs.upd (fun e => ?_) (fun e => ?_)) (fun e => by cases e)) .nil))
      · have e' : q = i := by rw [e, hzi]
        subst e'
        exact .cons (.int hrp.1) (.cons (.int hrp.2) (.cons (.cc rfl (Zat (Nat.lt_succ_self _)) (.rs (show Zbi gs (pA (q + 1)) (rA (q + 1)) (1000, q, 0) = _ from treeA_blk (Nat.lt_succ_self _) (by omega)) rfl rfl rfl)) .nil))
      · have e' : q ≠ i := by rw [hzi] at e; exact e
        refine .cons (.imm rfl) (.cons (.imm rfl) (.cons ?_ .nil))
        by_cases h1 : q < i
        · exact .cc (Zat h1) (Zat (Nat.lt_succ_of_lt h1)) (.rs (show Zbi gs (pA (i + 1)) (rA (i + 1)) (1000, q, 0) = _ from treeA_blk (Nat.lt_succ_of_lt h1) (by omega)) rfl rfl rfl)
        · exact .cc (Za9 (by omega)) (Za9 (by omega)) (.imm rfl)
    · exact ha1 (orH (Za2 [((1, 0, 0), .row false 1 1 (fun _ => [.rs (900, 0, 0) 3 0 fs.length])), ((2, 0, 0), Zaw [.nsl]), ((900, 0, 0), .row false 3 fs.length (fun q => [iv (fs.getD q default).params, iv (fs.getD q default).regs, sel (Nat.blt q i) (mem1 gs q) (Zbk (fs.getD q default).blocks)]))]) (Zbi gs (pA i) (rA i))) (fun _ _ => ⟨rfl, rfl⟩)
    · exact ha2 (orH (Za2 [((1, 0, 0), .row false 1 1 (fun _ => [.rs (900, 0, 0) 3 0 fs.length])), ((2, 0, 0), Zaw [.nsl]), ((900, 0, 0), .row false 3 fs.length (fun q => [iv (fs.getD q default).params, iv (fs.getD q default).regs, sel (Nat.blt q i) (mem1 gs q) (Zbk (fs.getD q default).blocks)]))]) (Zbi gs (pA i) (rA i))) (fun _ _ => ⟨rfl, rfl⟩)
  · have hil : i = fs.length := by simp only [decide_eq_false_iff_not] at hb; omega
    clear hb
    subst hil
    have hgp : ∀ q, q < gs.length → (gs.getD q default).params = (fs.getD q default).params ∧ (gs.getD q default).regs = (fs.getD q default).regs := fun q hq => by
      rw [hga q (by omega)]; exact r13_pr _
    refine Za6 (Weak.fam (L := []) (tl := [(1, .bp u8 0), (2, .bp u9 0)]) (hl := [((8, 7, 0), .row false 1 1 (fun _ => [.rs u0 3 0 gs.length])), ((9, 7, 0), Zaw [.nsl]), ((0, 7, 0), frow gs gs.length (fun x => x))]) (F := (treeA gs)) [(u8, some (1, 0, 0)), (u9, some (2, 0, 0)), (u0, some (900, 0, 0))] rfl (fun c hc => ?_) ?_ ?_ ?_ (fun i hi => by cases hi)) ?_
    · simp only [tgts, List.mem_cons, List.not_mem_nil, or_false] at hc
      rcases hc with rfl | rfl | rfl <;> exact .inl rfl
    · exact .cons (.bp rfl rfl) (.cons (.bp rfl rfl) .nil)
    · refine .old rfl rfl (GB.one (.cons (.rs rfl rfl rfl hgl.symm) .nil) (fun e => by cases e)) (.old rfl rfl (GB.one (GVs.imm rfl) (fun _ => rfl)) (.old rfl rfl (GB.row (Nat.le_of_eq hgl) (fun q hq => ?_) (fun e => by cases e)) .nil))
      exact .cons (.int (hgp q hq).1.symm) (.cons (.int (hgp q hq).2.symm) (.cons (.cc (Zat (by omega)) rfl (.rs (Zbu hq rfl) rfl rfl rfl)) .nil))
    · exact keepG (fun j hj _ => treeA_blk (by omega) hj) (fun j q hj hq _ => treeA_ins (by omega) hj hq) (fun j q hj hq _ => show treeA gs (1001, j, q) = _ from Zbp hj hq rfl) (fun _ _ => ⟨rfl, rfl⟩)
    have huse : FO Try.prog 93 [.agg (Zba ⟨gs⟩)] 1 gs.length (fun x => [.bool ((usedL gs).getD x false)]) := by
      rw [← hgs]
      exact c_used _ (by rw [hgs, hgl]; exact (Zer hr).1) (fun n hn y hy => by
        have h1 : n < fs.length := by rw [hgs, hgl] at hn; exact hn
        have h2 := clr_calls hr h1 hy
        rw [hgs, hgl]; exact h2) (clr_wt hr)
    (repeat' (refine Zac tok (by rfl) ?_; conv => whnf))
    refine .inl ⟨_, _, _, uG (QC.fo (rd := rdU gs) huse (.cons (res_modU rfl (fun _ _ => ⟨rfl, rfl⟩)) .nil) (.inr (fun _ _ => rfl)) rfl), ?_⟩
    conv => whnf
    have hS : usedL gs = Zc4 ⟨fs⟩ := by rw [← hgs]; exact stay_used hr
    have hSl : (Zc4 ⟨fs⟩).length = fs.length := stayL_len ⟨fs⟩
    have hsc : ∀ n, n < fs.length → (Zc4 ⟨fs⟩).getD n false = true → ∀ y ∈ Zal (gs.getD n default).blocks, 0 ≤ y ∧ y < (Zc4 ⟨fs⟩).length ∧ (Zb5 (Zc4 ⟨fs⟩)).getD y.toNat 0 = numB (Zc4 ⟨fs⟩) y.toNat := fun n hn h y hy => by
      rw [← hgs] at hy; exact stay_calls hr hn h hy
    have hM : ref13M ⟨fs⟩ = ⟨(Zav (Zc4 ⟨fs⟩) fs.length).map fun n => renF (Zc4 ⟨fs⟩) (gs.getD n default)⟩ := by
      unfold ref13M; rw [hgs]
    have hgen : ∃ S, Zc4 ⟨fs⟩ = S := ⟨_, rfl⟩
    obtain ⟨S, hSe⟩ := hgen
    rw [hSe] at hS hSl hM
    simp only [hSe] at hsc
    (repeat' ((fail_if_success (show AWp _ _ _ (Code.region 10 _ _) _ _)); refine Zad ?_))
    refine Za6 (Weak.fam (L := []) (tl := [(1, .bp u8 0), (2, .bp u9 0), (5, .bp u2 0)]) (hl := [((8, 7, 0), .row false 1 1 (fun _ => [.rs u0 3 0 gs.length])), ((9, 7, 0), Zaw [.nsl]), ((0, 7, 0), frow gs gs.length (fun x => x)), ((2, 7, 0), sbox S)]) (F := (treeA gs)) [(u2, some (5, 0, 0))] rfl (fun c hc => ?_) ?_ ?_ ?_ (fun i hi => by cases hi)) ?_
    · simp only [tgts, List.mem_singleton] at hc
      subst hc; exact .inl rfl
    · exact .cons (.bp rfl rfl) (.cons (.bp rfl rfl) (.cons (.bp rfl rfl) .nil))
    · refine .old rfl rfl (GB.one (.cons (.rs rfl rfl rfl rfl) .nil) (fun e => by cases e)) (.old rfl rfl (GB.one (GVs.imm rfl) (fun _ => rfl)) (.old rfl rfl (GB.row (Nat.le_refl _) (fun q hq => Zbh hq ?_ rfl) (fun e => by cases e)) (.old rfl rfl (GB.one (.cons ?_ .nil) (fun _ => rfl)) .nil)))
      · exact (show treeA gs (1000, q, 0) = Zbw gs (1000, q, 0) from rfl)
      · exact .frz (hd_of rfl (treeG_hd (fun a b => ⟨(fun e => by cases e), fun e => by cases e⟩))) rfl (Nat.le_of_eq (Nat.zero_add _)) (hgl.trans hSl.symm) (fun x hx => GVs.eqI rfl (by rw [Nat.zero_add, hS])) (fun _ _ => rfl)
    · exact keepTA (fun _ _ => ⟨rfl, rfl⟩) (fun _ _ => ⟨rfl, rfl⟩) (fun _ _ => ⟨rfl, rfl⟩)
    (repeat' (refine Zac tok (by rfl) ?_; conv => whnf))
    refine .inl ⟨_, _, _, uG (QC.fc (c_anew S) rfl), ?_⟩
    conv => whnf
    (repeat' ((fail_if_success (show AWp _ _ _ (Code.region 12 _ _) _ _)); first | refine Zad ?_ | (refine Zac tok (by rfl) ?_; conv => whnf)))
    refine Za6 (Weak.fam (L := []) (tl := [(1, .bp u8 0), (2, .bp u9 0), (5, .bp u2 0), (6, ints (Zb5 S)), (7, .bp u1 0)]) (hl := [((8, 7, 0), .row false 1 1 (fun _ => [.rs u0 3 0 gs.length])), ((9, 7, 0), Zaw [.nsl]), ((0, 7, 0), frow gs gs.length (fun x => x)), ((1, 7, 0), nbox (-1)), ((2, 7, 0), sbox S)]) (F := (treeA gs)) [(u1, some (7, 0, 0))] rfl (fun c hc => ?_) ?_ ?_ ?_ (fun i hi => by cases hi)) ?_
    · simp only [tgts, List.mem_singleton] at hc
      subst hc; exact .inl rfl
    · exact .cons (.bp rfl rfl) (.cons (.bp rfl rfl) (.cons (.bp rfl rfl) (.cons (.imm rfl) (.cons (.bp rfl rfl) .nil))))
    · exact .old rfl rfl (GB.one (.cons (.rs rfl rfl rfl rfl) .nil) (fun e => by cases e)) (.old rfl rfl (GB.one (GVs.imm rfl) (fun _ => rfl)) (.old rfl rfl (GB.row (Nat.le_refl _) (fun q hq => Zbh hq (show treeA gs (1000, q, 0) = Zbw gs (1000, q, 0) from rfl) rfl) (fun e => by cases e)) (.old rfl rfl (GB.one (GVs.imm rfl) (fun _ => rfl)) (.old rfl rfl (GB.one (GVs.imm rfl) (fun _ => rfl)) .nil))))
    · exact keepTA (fun _ _ => ⟨rfl, rfl⟩) (fun _ _ => ⟨rfl, rfl⟩) (fun _ _ => ⟨rfl, rfl⟩)
    have hdel := c_DelF gs S (hSl.trans hgl.symm) (by omega)
    (repeat' (refine Zac tok (by rfl) ?_; conv => whnf))
    refine .inr ⟨_, _, _, uG (QH.ofG (dead := []) hdel (srcL []) (srcL_inj rfl (fun i hi => by cases hi)) ?_ ?_ ?_), ?_⟩
    · refine HLs_or ?_ (keepT8 (x := .rs u0 3 0 gs.length) (y := .nsl) (fun _ _ => ⟨rfl, rfl⟩) (fun _ _ => ⟨rfl, rfl⟩) (fun _ _ => ⟨rfl, rfl⟩) rfl rfl)
      exact .old rfl rfl (GB.row (Nat.le_refl _) (fun q hq => Zbh hq rfl rfl) (fun e => by cases e)) (.old rfl rfl (GB.one (GVs.imm rfl) (fun _ => rfl)) (.old rfl rfl (GB.one (GVs.imm rfl) (fun _ => rfl)) .nil))
    · exact .cons (.rs rfl rfl rfl rfl) (.cons (.fn (.cons (.bp rfl rfl) (.cons (.bp rfl rfl) .nil))) .nil)
    · intro j hj
      have hm : j ∈ LL gs := by
        rcases lookN hj with h | h
        · simp only [List.map_cons, List.map_nil, List.mem_cons, List.not_mem_nil, or_false] at h
          unfold LL famIds
          rcases h with rfl | rfl | rfl | rfl | rfl <;> simp
        · unfold LL
          exact List.mem_cons_of_mem _ (List.mem_cons_of_mem _ (List.mem_cons_of_mem _ (treeA_fam h)))
      have hp := LM_pin (LL_LM hm)
      exact .inr ⟨hm, hp, rfl, (LL_ok j hm hp).1, (LL_ok j hm hp).1⟩
    conv => whnf
    (repeat' first | refine Zad ?_ | (refine Zac tok (by rfl) ?_; conv => whnf))
    refine Zaf ?_
    rw [hgl]
    have hkl := keptN_le S fs.length
    have hgen : ∃ K, Zav S fs.length = K := ⟨_, rfl⟩
    obtain ⟨K, hK⟩ := hgen
    have hKlt : ∀ x, x < K.length → K.getD x 0 < fs.length := fun x hx => by rw [← hK] at hx ⊢; exact Zcr hx
    have hKin : ∀ a b, a < K.length → b < K.length → K.getD a 0 = K.getD b 0 → a = b := fun a b ha hb e => by rw [← hK] at ha hb e; exact keptN_inj ha hb e
    have hKs : ∀ x, x < K.length → S.getD (K.getD x 0) false = true := fun x hx => by
      have := (Zet 0).2 ⟨x, hx, rfl⟩
      rw [← hK] at this
      unfold Zav at this
      rw [← hK]
      exact (List.mem_filter.1 this).2
    rw [hK] at hkl hM
    have hgen : ∃ ls, K.map (fun n => gs.getD n default) = ls := ⟨_, rfl⟩
    obtain ⟨ls, hls⟩ := hgen
    have hlsl : ls.length = K.length := by rw [← hls, List.length_map]
    have hlsa : ∀ x, x < K.length → ls.getD x default = gs.getD (K.getD x 0) default := fun x hx => by
      rw [← hls, List.getD_eq_getElem?_getD, List.getElem?_map, List.getElem?_eq_getElem hx, Zbm 0 hx]; rfl
    refine Zas (fun i : Nat => mkF [(1, .bp (1, 0, 0) 0), (2, .bp (2, 0, 0) 0), (6, ints (Zb5 S)), (46, .rs (900, 0, 0) 3 0 ls.length), (47, iv ls.length), (48, iv i)] [((1, 0, 0), .row false 1 1 (fun _ => [.rs (900, 0, 0) 3 0 ls.length])), ((2, 0, 0), anyB), ((900, 0, 0), funR1 ls (fun j => sel (Nat.blt j i) (Zbk (mapB (renC S) (ls.getD j default).blocks (ls.getD j default).blocks.length)) (mem1 ls j)))] (Zbi ls (pO i) (rO i))) (fun i => i ≤ ls.length) (fun i => ls.length - i) 0 (Nat.zero_le _) ?_ ?_
    · refine Weak.gen (τ := mkF [(1, .bp (1, 0, 0) 0), (2, .bp (2, 0, 0) 0), (6, ints (Zb5 S)), (46, .rs (900, 0, 0) 3 0 ls.length), (47, iv ls.length), (48, iv 0)] [((1, 0, 0), .row false 1 1 (fun _ => [.rs (900, 0, 0) 3 0 ls.length])), ((2, 0, 0), anyB), ((900, 0, 0), funR1 ls (fun j => sel (Nat.blt j 0) (Zbk (mapB (renC S) (ls.getD j default).blocks (ls.getD j default).blocks.length)) (mem1 ls j)))] (Zbi ls (pO 0) (rO 0))) (rnm (fun x => K.getD x 0)) ?_ ?_ ?_ (fun i hi => by cases hi)
      · have hdom : ∀ j, (orH (Za2 [((1, 0, 0), .row false 1 1 (fun _ => [.rs (900, 0, 0) 3 0 ls.length])), ((2, 0, 0), anyB), ((900, 0, 0), funR1 ls (fun j => sel (Nat.blt j 0) (Zbk (mapB (renC S) (ls.getD j default).blocks (ls.getD j default).blocks.length)) (mem1 ls j)))]) (Zbi ls (pO 0) (rO 0)) j).isSome = true → j = (1, 0, 0) ∨ j = (2, 0, 0) ∨ j = (900, 0, 0) ∨ (∃ a, a < K.length ∧ j = (1000, a, 0)) ∨ ∃ a q, a < K.length ∧ j = (1001, a, q) := fun j h => by
          rcases lookN h with h | h
          · simp only [List.map_cons, List.map_nil, List.mem_cons, List.not_mem_nil, or_false] at h
            rcases h with h | h | h
            · exact .inl h
            · exact .inr (.inl h)
            · exact .inr (.inr (.inl h))
          · cases e : Zbi ls (pO 0) (rO 0) j with
            | none => rw [e] at h; cases h
            | some b =>
              rcases Zb2 e with ⟨a, rfl, ha, _⟩ | ⟨a, q, rfl, ha, _⟩
              · exact .inr (.inr (.inr (.inl ⟨a, by omega, rfl⟩)))
              · exact .inr (.inr (.inr (.inr ⟨a, q, by omega, rfl⟩)))
        intro j j' i e1 e2 e3 e4
        exact rnm_inj hKin (hdom j e1) (hdom j' e2) e3 e4
      · intro j b e
        have hKe : (Zav S fs.length).length = ls.length := by rw [hK, hlsl]
        refine HLs_or (hl := [((1, 0, 0), .row false 1 1 (fun _ => [.rs (900, 0, 0) 3 0 ls.length])), ((2, 0, 0), anyB), ((900, 0, 0), funR1 ls (fun j => sel (Nat.blt j 0) (Zbk (mapB (renC S) (ls.getD j default).blocks (ls.getD j default).blocks.length)) (mem1 ls j)))]) (F := Zbi ls (pO 0) (rO 0)) ?_ ?_ j b e
        · refine .old rfl rfl (GB.one (.cons (.rs rfl rfl rfl hKe) .nil) (fun e => by cases e)) (.old rfl rfl (GB.one (.cons .any .nil) (fun e => by cases e)) (.old rfl rfl (GB.row (Nat.le_of_eq hKe.symm) (fun q hq => ?_) (fun e => by cases e)) .nil))
          have hq' : q < K.length := by omega
          show GVs _ _ _ (Zfq gs ((Zav S fs.length).getD q 0)) _
          rw [hK]
          refine .cons (.int (by rw [hlsa q hq'])) (.cons (.int (by rw [hlsa q hq'])) (.cons (.cc rfl (Za9 (Nat.zero_le _)) (.rs (show Zbi ls (pO 0) (rO 0) (1000, q, 0) = _ from Zbu hq rfl) rfl rfl (by rw [hlsa q hq']))) .nil))
        · intro j b e
          rcases Zb2 e with ⟨a, rfl, ha, _, rfl⟩ | ⟨a, q, rfl, ha, hq, _, rfl⟩
          · have ha' : a < K.length := by omega
            refine HOk.mk (i := (1000, K.getD a 0, 0)) (b0 := blkR (K.getD a 0) (gs.getD (K.getD a 0) default).blocks (gs.getD (K.getD a 0) default).blocks.length (fun _ => .any)) rfl ?_ ?_
            · refine Eq.trans ?_ (treeT_blk (l := gs) (by rw [hgl]; exact hKlt a ha'))
              exact Zca (u := orH (Za2 [(u0, frow gs (Zav S fs.length).length (fun x => (Zav S fs.length).getD x 0)), (u1, nbox ((fs.length : Int) - 1)), (u2, sbox S)]) (Zbw gs)) (h := orH (Za2 [((8, 7, 0), .row false 1 1 (fun _ => [.rs u0 3 0 gs.length])), ((9, 7, 0), Zaw [.nsl]), ((0, 7, 0), frow gs gs.length (fun x => x)), ((1, 7, 0), nbox (-1)), ((2, 7, 0), sbox S)]) (treeA gs)) rfl
            · rw [hlsa a ha']
              refine GB.row (Nat.le_refl _) (fun q hq => ?_) (fun e => by cases e)
              exact Zb6 (.cc (Zat hq) (Zat hq) (.rs (show Zbi ls (pO 0) (rO 0) (1001, a, q) = _ from Zbp ha (by rw [hlsa a ha']; exact hq) rfl) rfl rfl rfl))
          · have ha' : a < K.length := by omega
            rw [hlsa a ha'] at hq ⊢
            refine HOk.mk (i := (1001, K.getD a 0, q)) (b0 := insR ((gs.getD (K.getD a 0) default).blocks.getD q default).ins) rfl ?_ (Zc2 _)
            refine Eq.trans ?_ (Zez (l := gs) (by rw [hgl]; exact hKlt a ha') hq)
            exact Zca (u := orH (Za2 [(u0, frow gs (Zav S fs.length).length (fun x => (Zav S fs.length).getD x 0)), (u1, nbox ((fs.length : Int) - 1)), (u2, sbox S)]) (Zbw gs)) (h := orH (Za2 [((8, 7, 0), .row false 1 1 (fun _ => [.rs u0 3 0 gs.length])), ((9, 7, 0), Zaw [.nsl]), ((0, 7, 0), frow gs gs.length (fun x => x)), ((1, 7, 0), nbox (-1)), ((2, 7, 0), sbox S)]) (treeA gs)) rfl
      · intro t
        refine TLg.spec (l := [(1, .bp (1, 0, 0) 0), (2, .bp (2, 0, 0) 0), (6, ints (Zb5 S)), (46, .rs (900, 0, 0) 3 0 ls.length), (47, iv ls.length), (48, iv 0)]) t ?_
        have hKe : (Zav S fs.length).length = ls.length := by rw [hK, hlsl]
        exact .cons (.bp rfl rfl) (.cons (.bp rfl rfl) (.cons (.imm rfl) (.cons (.rs rfl rfl rfl hKe) (.cons (.int (by rw [← hKe])) (.cons (.imm rfl) .nil)))))
    have hcl : ∀ i, i < ls.length → ∀ y ∈ Zal (ls.getD i default).blocks, 0 ≤ y ∧ y < S.length ∧ (Zb5 S).getD y.toNat 0 = numB S y.toNat := fun i hi y hy => by
      rw [hlsa i (by omega)] at hy
      exact hsc _ (hKlt i (by omega)) (hKs i (by omega)) y hy
    have hlb : ∀ i, i < ls.length → (ls.getD i default).blocks.length ≤ maxL ∧ ∀ q, q < (ls.getD i default).blocks.length → ((ls.getD i default).blocks.getD q default).ins.length ≤ maxL := fun i hi => by
      have hK' := hKlt i (by omega)
      rw [hlsa i (by omega), hga _ hK']
      refine ⟨Nat.le_trans (r13_le _) (hl1 _ hK'), fun q hq => ?_⟩
      obtain ⟨n, hn, e1, _⟩ := ref13_from hq
      rw [e1]; exact hl2 _ hK' n hn
    have hlm : ls.length ≤ maxL := by omega
    have hM2 : ref13M ⟨fs⟩ = ⟨ls.map (renF S)⟩ := by rw [hM, ← hls, List.map_map]; rfl
    clear hM hsc hdel hga hl1 hl2
    have hal := anewL_len S
    intro i hi
    (repeat' ((fail_if_success (show AWp _ _ _ (Code.region 15 _ _) _ _)); (fail_if_success (show AWp _ _ _ (Code.region 30 _ _) _ _)); first | refine Zad ?_ | (refine Zac tok (by rfl) ?_; conv => whnf) | refine Zaf ?_ | (refine Zai ?_; conv => whnf) | (refine Zar ?_; conv => whnf) | refine Zah rfl (fun hb => ?_) (fun hb => ?_)))
    · have hlt : i < ls.length := by simp only [decide_eq_true_eq] at hb; omega
      clear hb
      have hz : 0 + (i : Int).toNat = i := by simp
      have hgen : ∃ l, (ls.getD i default).blocks = l := ⟨_, rfl⟩
      obtain ⟨l, hlbe⟩ := hgen
      obtain ⟨hll, hli⟩ := hlb i hlt
      have hcy := hcl i hlt
      rw [hlbe] at hll hli hcy
      ((repeat' ((fail_if_success (show AWp _ _ _ (Code.region 16 _ _) _ _)); first | (refine Zac tok (by rfl) ?_; conv => whnf) | (refine @And.intro (Zaa _ _ _ _) _ ?_ ?_; rotate_left; (conv => whnf); rotate_right))); all_goals (try ((guard_target = Zaa _ _ _ _); refine Zae ?_; (all_goals (try simp only [Zaa, kzz, kz11, kz12, maxL, Zab] at *)); all_goals omega)))
      refine fAV (y := .rs (1000, i, 0) 14 0 l.length) ?_ ?_
      · show sel (Nat.blt (0 + (i : Int).toNat) i) _ (mem1 ls (0 + (i : Int).toNat)) = _
        rw [hz, Za9 (Nat.le_refl _)]; unfold mem1; rw [hlbe]
      conv => whnf
      (repeat' ((fail_if_success (show AWp _ _ _ (Code.region 16 _ _) _ _)); refine Zad ?_))
      refine Za6 (Weak.fam (L := []) (tl := [(1, .bp (1, 0, 0) 0), (2, .bp (2, 0, 0) 0), (6, ints (Zb5 S)), (9, .bp (9, 0, 0) 0), (46, .rs (900, 0, 0) 3 0 ls.length), (47, iv ls.length), (48, iv i)]) (hl := [((1, 0, 0), .row false 1 1 (fun _ => [.rs (900, 0, 0) 3 0 ls.length])), ((2, 0, 0), anyB), ((900, 0, 0), funR1 ls (fun j => sel (Nat.blt j i) (Zbk (mapB (renC S) (ls.getD j default).blocks (ls.getD j default).blocks.length)) (sel (Nat.beq j i) (.rs (901, 0, 0) 14 0 l.length) (mem1 ls j)))), ((9, 0, 0), .row false 3 1 (fun _ => [iv (ls.getD i default).params, iv (ls.getD i default).regs, .rs (901, 0, 0) 14 0 l.length])), ((901, 0, 0), rowN S i 0 l (ownI i l))]) (F := (Zbi ls (pI i) (rI i 0))) [((901, 0, 0), some (1000, i, 0))] rfl (fun c hc => ?_) ?_ ?_ ?_ (fun i hi => by cases hi)) ?_
      · simp only [tgts, List.mem_singleton] at hc; subst hc
        left
        show Zbi ls (pI i) (rI i 0) (1000, i, 0) = none
        cases e : Zbi ls (pI i) (rI i 0) (1000, i, 0) with
        | none => rfl
        | some b =>
          rcases Zb2 e with ⟨p, e1, _, e2, _⟩ | ⟨p, q, e1, _⟩
          · cases e1; unfold pI at e2; rw [Nat.blt_eq] at e2; omega
          · cases e1
      · exact .cons (.bp rfl rfl) (.cons (.bp rfl rfl) (.cons (.imm rfl) (.cons (.bp rfl rfl) (.cons (.rs rfl rfl rfl rfl) (.cons (.imm rfl) (.cons (.imm rfl) .nil))))))
      · refine .old rfl rfl (GB.one (.cons (.rs rfl rfl rfl rfl) .nil) (fun e => by cases e)) (.old rfl rfl (GB.one (.cons .any .nil) (fun e => by cases e)) (.old rfl rfl (GB.row (Nat.le_refl _) (fun q hq => .cons (.imm rfl) (.cons (.imm rfl) (.cons ?_ .nil))) (fun e => by cases e)) (.old rfl rfl (GB.one (.cons (.int (by rw [hz])) (.cons (.int (by rw [hz])) (.cons (.rs rfl Zeq rfl rfl) .nil))) (fun e => by cases e)) (.old (b0 := blkR i (ls.getD i default).blocks (ls.getD i default).blocks.length (fun _ => .any)) rfl ?_ ?_ .nil))))
        · by_cases h1 : q < i
          · exact .cc (Zat h1) (Zat h1) (.imm rfl)
          · by_cases h2 : q = i
            · subst h2
              exact .cc (Za9 (Nat.le_refl _)) ((Za9 (Nat.le_refl _)).trans Zch) (.rs rfl Zeq rfl (by rw [hlbe]))
            · refine .cc (Za9 (Nat.le_of_not_lt h1)) ((Za9 (Nat.le_of_not_lt h1)).trans (Zd8 h2)) (.rs (show Zbi ls (pI i) (rI i 0) (1000, q, 0) = _ from Zbu hq (by unfold pI; rw [Nat.blt_eq]; omega)) (Zb0 (fun h => h2 (by cases h))) rfl rfl)
        · show Zbi ls (pO i) (rO i) (1000, i, 0) = _
          exact Zbu hlt (by unfold pO; rw [Nat.ble_eq]; omega)
        · rw [hlbe]
          refine GB.row (Nat.le_refl _) (fun q hq => ?_) (fun e => by cases e)
          rw [mapB_at hq, if_neg (Nat.not_lt_zero q)]
          refine Zb6 (.cc (Zat hq) (Za9 (Nat.zero_le _)) (.rs (b := insR (l.getD q default).ins) ?_ (Zb0 (fun h => by cases h)) rfl rfl))
          show Zbi ls (pI i) (rI i 0) (1001, i, q) = _
          rw [Zbp hlt (by rw [hlbe]; exact hq) (Zel.2 (.inr ⟨rfl, Nat.zero_le _⟩)), hlbe]
      · intro j b e
        rcases Zb2 e with ⟨p, rfl, hp, h2, rfl⟩ | ⟨p, q, rfl, hp, hq, h2, rfl⟩
        · have h2' : i < p := by unfold pI at h2; rw [Nat.blt_eq] at h2; exact h2
          exact HOk.mk (Zb0 (fun h => by cases h)) (show Zbi ls (pO i) (rO i) (1000, p, 0) = _ from Zbu hp (by unfold pO; rw [Nat.ble_eq]; omega)) (Zcl (fun q hq => .cc (Zat hq) (Zat hq) (.rs (show Zbi ls (pI i) (rI i 0) (1001, p, q) = _ from Zbp hp hq (Zel.2 (.inl h2'))) (Zb0 (fun h => by cases h)) rfl rfl)))
        · have h2' := Zel.1 h2
          exact HOk.mk (Zb0 (fun h => by cases h)) (show Zbi ls (pO i) (rO i) (1001, p, q) = _ from Zbp hp hq (by unfold rO; rw [Nat.ble_eq]; omega)) (Zc2 _)
      (repeat' (refine Zac tok (by rfl) ?_; conv => whnf))
      refine Zaf ?_
      refine Zas (fun k : Nat => mkF [(1, .bp (1, 0, 0) 0), (2, .bp (2, 0, 0) 0), (6, ints (Zb5 S)), (9, .bp (9, 0, 0) 0), (46, .rs (900, 0, 0) 3 0 ls.length), (47, iv ls.length), (48, iv i), (53, .rs (901, 0, 0) 14 0 l.length), (54, iv l.length), (55, iv k)] [((1, 0, 0), .row false 1 1 (fun _ => [.rs (900, 0, 0) 3 0 ls.length])), ((2, 0, 0), anyB), ((900, 0, 0), funR1 ls (fun j => sel (Nat.blt j i) (Zbk (mapB (renC S) (ls.getD j default).blocks (ls.getD j default).blocks.length)) (sel (Nat.beq j i) (.rs (901, 0, 0) 14 0 l.length) (mem1 ls j)))), ((9, 0, 0), .row false 3 1 (fun _ => [iv (ls.getD i default).params, iv (ls.getD i default).regs, .rs (901, 0, 0) 14 0 l.length])), ((901, 0, 0), rowN S i k l (ownI i l))] (Zbi ls (pI i) (rI i k))) (fun k => k ≤ l.length) (fun k => l.length - k) 0 (Nat.zero_le _) ?_ ?_
      · refine Weak.fam [] rfl (fun i hi => by cases hi) ?_ ?_ (keepF (Nat.le_refl _) (fun _ _ => ⟨rfl, rfl⟩) (fun _ _ => ⟨rfl, rfl⟩) (fun _ _ => ⟨rfl, rfl⟩)) (fun i hi => by cases hi)
        · exact .cons (.bp rfl rfl) (.cons (.bp rfl rfl) (.cons (.imm rfl) (.cons (.bp rfl rfl) (.cons (.rs rfl rfl rfl rfl) (.cons (.imm rfl) (.cons (.imm rfl) (.cons (.rs rfl rfl rfl rfl) (.cons (.imm rfl) (.cons (.imm rfl) .nil)))))))))
        · refine .old rfl rfl (GB.one (.cons (.rs rfl rfl rfl rfl) .nil) (fun e => by cases e)) (.old rfl rfl (GB.one (.cons .any .nil) (fun e => by cases e)) (.old rfl rfl (GB_fun1 (fun q hq => keepA rfl (fun h => show Zbi ls (pI i) (rI i 0) (1000, q, 0) = _ from Zbu hq (by unfold pI; rw [Nat.blt_eq]; exact h)) rfl rfl rfl)) (.old rfl rfl (GB.one (.cons (.imm rfl) (.cons (.imm rfl) (.cons (.rs rfl rfl rfl rfl) .nil))) (fun e => by cases e)) (.old rfl rfl (keepRowN (fun q h1 hq => ?_)) .nil))))
          exact .rs (b := insR (l.getD q default).ins) (show Zbi ls (pI i) (rI i 0) (1001, i, q) = _ from by rw [Zbp hlt (by rw [hlbe]; exact hq) (Zel.2 (.inr ⟨rfl, h1⟩)), hlbe]) rfl rfl rfl
      intro k hk
      (repeat' ((fail_if_success (show AWp _ _ _ (Code.region 18 _ _) _ _)); (fail_if_success (show AWp _ _ _ (Code.region 29 _ _) _ _)); first | refine Zad ?_ | (refine Zac tok (by rfl) ?_; conv => whnf) | refine Zaf ?_ | (refine Zai ?_; conv => whnf) | (refine Zar ?_; conv => whnf) | refine Zah rfl (fun hb => ?_) (fun hb => ?_)))
      · have hkl : k < l.length := by simp only [decide_eq_true_eq] at hb; omega
        clear hb
        have hzk : 0 + (k : Int).toNat = k := by simp
        have hgen : ∃ b, l.getD k default = b := ⟨_, rfl⟩
        obtain ⟨b, hbk⟩ := hgen
        have hbi := hli k hkl
        have hmk : (mapB (renC S) l k).getD k default = b := by rw [mapB_at hkl, if_neg (Nat.lt_irrefl k), hbk]
        have hcb : ∀ y ∈ Zcj b, 0 ≤ y ∧ y < S.length ∧ (Zb5 S).getD y.toNat 0 = numB S y.toNat := fun y hy => hcy y (funCalls_mem.2 ⟨k, hkl, by rw [hbk]; exact hy⟩)
        rw [hbk] at hbi
        ((repeat' ((fail_if_success (show AWp _ _ _ (Code.region 20 _ _) _ _)); first | refine Zad ?_ | (refine Zac tok (by rfl) ?_; conv => whnf) | (refine @And.intro (Zaa _ _ _ _) _ ?_ ?_; rotate_left; (conv => whnf); rotate_right))); all_goals (try ((guard_target = Zaa _ _ _ _); refine Zae ?_; (all_goals (try simp only [Zaa, kzz, kz11, kz12, maxL, Zab] at *)); all_goals omega)))
        refine Za6 (Weak.fam (L := []) (tl := [(1, .bp (1, 0, 0) 0), (2, .bp (2, 0, 0) 0), (6, ints (Zb5 S)), (9, .bp (9, 0, 0) 0), (10, iv k), (11, .rp (901, 0, 0) 14 k 0), (46, .rs (900, 0, 0) 3 0 ls.length), (47, iv ls.length), (48, iv i), (53, .rs (901, 0, 0) 14 0 l.length), (54, iv l.length), (55, iv k)]) (hl := [((1, 0, 0), .row false 1 1 (fun _ => [.rs (900, 0, 0) 3 0 ls.length])), ((2, 0, 0), anyB), ((900, 0, 0), funR1 ls (fun j => sel (Nat.blt j i) (Zbk (mapB (renC S) (ls.getD j default).blocks (ls.getD j default).blocks.length)) (sel (Nat.beq j i) (.rs (901, 0, 0) 14 0 l.length) (mem1 ls j)))), ((9, 0, 0), .row false 3 1 (fun _ => [iv (ls.getD i default).params, iv (ls.getD i default).regs, .rs (901, 0, 0) 14 0 l.length])), ((901, 0, 0), rowN S i k l (fun q => sel (Nat.beq q k) (.rs (902, 0, 0) 7 0 b.ins.length) (ownI i l q))), ((902, 0, 0), rowJ S b.ins 0)]) (F := (Zbi ls (pI i) (rI i (k + 1)))) [((902, 0, 0), some (1001, i, k))] rfl (fun c hc => ?_) ?_ ?_ ?_ (fun i hi => by cases hi)) ?_
        · simp only [tgts, List.mem_singleton] at hc; subst hc
          left
          show Zbi ls (pI i) (rI i (k + 1)) (1001, i, k) = none
          cases e : Zbi ls (pI i) (rI i (k + 1)) (1001, i, k) with
          | none => rfl
          | some b =>
            rcases Zb2 e with ⟨p, e1, _⟩ | ⟨p, q, e1, _, _, h2, _⟩
            · cases e1
            · cases e1; have := Zel.1 h2; omega
        · exact .cons (.bp rfl rfl) (.cons (.bp rfl rfl) (.cons (.imm rfl) (.cons (.bp rfl rfl) (.cons (.imm rfl) (.cons (.rp rfl rfl hzk) (.cons (.rs rfl rfl rfl rfl) (.cons (.imm rfl) (.cons (.imm rfl) (.cons (.rs rfl rfl rfl rfl) (.cons (.imm rfl) (.cons (.imm rfl) .nil)))))))))))
        · refine .old rfl rfl (GB.one (.cons (.rs rfl rfl rfl rfl) .nil) (fun e => by cases e)) (.old rfl rfl (GB.one (.cons .any .nil) (fun e => by cases e)) (.old rfl rfl (GB_fun1 (fun q hq => keepA rfl (fun h => show Zbi ls (pI i) (rI i (k + 1)) (1000, q, 0) = _ from Zbu hq (by unfold pI; rw [Nat.blt_eq]; exact h)) (Zb0 (fun h => by cases h)) rfl (Zb0 (fun h => by cases h)))) (.old rfl rfl (GB.one (.cons (.imm rfl) (.cons (.imm rfl) (.cons (.rs rfl rfl rfl rfl) .nil))) (fun e => by cases e)) (.old rfl rfl (keepRowN (fun q h1 hq => ?_)) (.old (b0 := insR b.ins) Zeq ?_ (GB.rowI (Nat.le_refl _) (fun x hx => ⟨rfl, by rw [insJ_ge (Nat.zero_le _)]⟩)) .nil)))))
          · by_cases h2 : q = k
            · subst h2; exact .cc rfl Zch (.rs rfl Zeq rfl (by rw [← hbk]))
            · exact .cc rfl (Zd8 h2) (.rs (show Zbi ls (pI i) (rI i (k + 1)) (1001, i, q) = some (insR (l.getD q default).ins) from by rw [Zbp hlt (by rw [hlbe]; exact hq) (Zel.2 (.inr ⟨rfl, by omega⟩)), hlbe]) (Zb0 (fun h => by cases h)) rfl rfl)
          · show Zbi ls (pI i) (rI i k) (1001, i, k) = _
            rw [Zbp hlt (by rw [hlbe]; exact hkl) (Zel.2 (.inr ⟨rfl, Nat.le_refl _⟩)), hlbe, hbk]
        · exact keepF (Nat.le_succ _) (fun _ _ => ⟨rfl, rfl⟩) (fun _ _ => ⟨rfl, rfl⟩) (fun _ _ => ⟨(Zb0 (fun h => by cases h)), (Zb0 (fun h => by cases h))⟩)
        ((repeat' first | (refine Zac tok (by rfl) ?_; conv => whnf) | (refine @And.intro (Zaa _ _ _ _) _ ?_ ?_; rotate_left; (conv => whnf); rotate_right)); all_goals (try ((guard_target = Zaa _ _ _ _); refine Zae ?_; (all_goals (try simp only [Zaa, kzz, kz11, kz12, maxL, Zab] at *)); all_goals omega)))
        refine fAV (y := .rs (902, 0, 0) 7 0 b.ins.length) (show sel (Nat.blt k k) _ (sel (Nat.beq k k) _ _) = _ by rw [Za9 (Nat.le_refl _), Zch]) ?_
        conv => whnf
        skip
        refine Zaf ?_
        refine Zas (fun j : Nat => mkF [(1, .bp (1, 0, 0) 0), (2, .bp (2, 0, 0) 0), (6, ints (Zb5 S)), (9, .bp (9, 0, 0) 0), (10, iv k), (11, .rp (901, 0, 0) 14 k 0), (46, .rs (900, 0, 0) 3 0 ls.length), (47, iv ls.length), (48, iv i), (53, .rs (901, 0, 0) 14 0 l.length), (54, iv l.length), (55, iv k), (65, .rs (902, 0, 0) 7 0 b.ins.length), (66, iv b.ins.length), (67, iv j)] [((1, 0, 0), .row false 1 1 (fun _ => [.rs (900, 0, 0) 3 0 ls.length])), ((2, 0, 0), anyB), ((900, 0, 0), funR1 ls (fun j => sel (Nat.blt j i) (Zbk (mapB (renC S) (ls.getD j default).blocks (ls.getD j default).blocks.length)) (sel (Nat.beq j i) (.rs (901, 0, 0) 14 0 l.length) (mem1 ls j)))), ((9, 0, 0), .row false 3 1 (fun _ => [iv (ls.getD i default).params, iv (ls.getD i default).regs, .rs (901, 0, 0) 14 0 l.length])), ((901, 0, 0), rowN S i k l (fun q => sel (Nat.beq q k) (.rs (902, 0, 0) 7 0 b.ins.length) (ownI i l q))), ((902, 0, 0), rowJ S b.ins j)] (Zbi ls (pI i) (rI i (k + 1)))) (fun j => j ≤ b.ins.length) (fun j => b.ins.length - j) 0 (Nat.zero_le _) ?_ ?_
        · refine Weak.fam [] rfl (fun i hi => by cases hi) ?_ ?_ (keepF (Nat.le_refl _) (fun _ _ => ⟨rfl, rfl⟩) (fun _ _ => ⟨rfl, rfl⟩) (fun _ _ => ⟨rfl, rfl⟩)) (fun i hi => by cases hi)
          · exact .cons (.bp rfl rfl) (.cons (.bp rfl rfl) (.cons (.imm rfl) (.cons (.bp rfl rfl) (.cons (.imm rfl) (.cons (.rp rfl rfl rfl) (.cons (.rs rfl rfl rfl rfl) (.cons (.imm rfl) (.cons (.imm rfl) (.cons (.rs rfl rfl rfl rfl) (.cons (.imm rfl) (.cons (.imm rfl) (.cons (.rs rfl rfl rfl rfl) (.cons (.imm rfl) (.cons (.imm rfl) .nil))))))))))))))
          · exact .old rfl rfl (GB.one (.cons (.rs rfl rfl rfl rfl) .nil) (fun e => by cases e)) (.old rfl rfl (GB.one (.cons .any .nil) (fun e => by cases e)) (.old rfl rfl (GB_fun1 (fun q hq => keepA rfl (fun h => show Zbi ls (pI i) (rI i (k + 1)) (1000, q, 0) = _ from Zbu hq (by unfold pI; rw [Nat.blt_eq]; exact h)) rfl rfl rfl)) (.old rfl rfl (GB.one (.cons (.imm rfl) (.cons (.imm rfl) (.cons (.rs rfl rfl rfl rfl) .nil))) (fun e => by cases e)) (.old rfl rfl (keepRowN (fun q h1 hq => keepX rfl rfl (fun h2 => (show Zbi ls (pI i) (rI i (k + 1)) (1001, i, q) = some (insR (l.getD q default).ins) from by rw [Zbp hlt (by rw [hlbe]; exact hq) (Zel.2 (.inr ⟨rfl, by omega⟩)), hlbe])) rfl)) (.old rfl rfl (GB.rowI (Nat.le_refl _) (fun _ _ => ⟨rfl, rfl⟩)) .nil)))))
        intro j hj
        (repeat' ((fail_if_success (show AWp _ _ _ (Code.region 23 _ _) _ _)); (fail_if_success (show AWp _ _ _ (Code.region 26 _ _) _ _)); first | refine Zad ?_ | (refine Zac tok (by rfl) ?_; conv => whnf) | refine Zaf ?_ | (refine Zai ?_; conv => whnf) | (refine Zar ?_; conv => whnf) | refine Zah rfl (fun hb => ?_) (fun hb => ?_)))
        · have hjl : j < b.ins.length := by simp only [decide_eq_true_eq] at hb; omega
          clear hb
          have hzj : 0 + (j : Int).toNat = j := by simp
          have hxj : insJ S b.ins j (0 + (j : Int).toNat) = b.ins.getD j default := by rw [hzj, insJ_ge (Nat.le_refl _)]
          have hxf : (b.ins.getD j default).op = 11 → 0 ≤ (b.ins.getD j default).f ∧ (b.ins.getD j default).f < S.length ∧ (Zb5 S).getD (b.ins.getD j default).f.toNat 0 = numB S (b.ins.getD j default).f.toNat := fun h => hcb _ (Zex.2 (.inl ⟨j, hjl, h, rfl⟩))
          ((repeat' first | (refine Zac tok (by rfl) ?_; conv => whnf) | (refine @And.intro (Zaa _ _ _ _) _ ?_ ?_; rotate_left; (conv => whnf); rotate_right)); all_goals (try ((guard_target = Zaa _ _ _ _); refine Zae ?_; (all_goals (try simp only [Zaa, kzz, kz11, kz12, maxL, Zab] at *)); all_goals omega)))
          refine fAV (y := .rs (902, 0, 0) 7 0 b.ins.length) (show sel (Nat.blt k k) _ (sel (Nat.beq k k) _ _) = _ by rw [Za9 (Nat.le_refl _), Zch]) ?_
          conv => whnf
          ((repeat' ((fail_if_success (show AWp _ _ _ (Code.region 24 _ _) _ _)); (fail_if_success (show AWp _ _ _ (Code.region 25 _ _) _ _)); first | (refine Zai ?_; conv => whnf) | refine Zah rfl (fun hb => ?_) (fun hb => ?_) | (refine @And.intro (Zaa _ _ _ _) _ ?_ ?_; rotate_left; (conv => whnf); rotate_right))); all_goals (try ((guard_target = Zaa _ _ _ _); refine Zae ?_; (all_goals (try simp only [Zaa, kzz, kz11, kz12, maxL, Zab] at *)); all_goals omega)))
          · have h11 : (b.ins.getD j default).op = 11 := by rw [hxj] at hb; simpa using hb
            clear hb
            obtain ⟨g1, g2, g3⟩ := hxf h11
            have g1' : 0 ≤ (insJ S b.ins j (0 + (j : Int).toNat)).f := by rw [hxj]; exact g1
            have g2' : (insJ S b.ins j (0 + (j : Int).toNat)).f < (Zb5 S).length := by rw [hxj, hal]; exact g2
            ((repeat' first | (refine Zbb tok mix (by rfl) ?_; conv => whnf) | (refine @And.intro (Zaa _ _ _ _) _ ?_ ?_; rotate_left; (conv => whnf); rotate_right)); all_goals (try ((guard_target = Zaa _ _ _ _); refine Zae ?_; (all_goals (try simp only [Zaa, kzz, kz11, kz12, maxL, Zab] at *)); all_goals omega)))
            refine fAV (y := .rs (902, 0, 0) 7 0 b.ins.length) (show sel (Nat.blt k k) _ (sel (Nat.beq k k) _ _) = _ by rw [Za9 (Nat.le_refl _), Zch]) ?_
            conv => whnf
            ((repeat' (refine @And.intro (Zaa _ _ _ _) _ ?_ ?_; rotate_left; (conv => whnf); rotate_right)); all_goals (try ((guard_target = Zaa _ _ _ _); refine Zae ?_; (all_goals (try simp only [Zaa, kzz, kz11, kz12, maxL, Zab] at *)); all_goals omega)))
            refine fAV (y := .rs (902, 0, 0) 7 0 b.ins.length) (show sel (Nat.blt k k) _ (sel (Nat.beq k k) _ _) = _ by rw [Za9 (Nat.le_refl _), Zch]) ?_
            conv => whnf
            ((repeat' first | (refine Zac tok (by rfl) ?_; conv => whnf) | (refine @And.intro (Zaa _ _ _ _) _ ?_ ?_; rotate_left; (conv => whnf); rotate_right)); all_goals (try ((guard_target = Zaa _ _ _ _); refine Zae ?_; (all_goals (try simp only [Zaa, kzz, kz11, kz12, maxL, Zab] at *)); all_goals omega)))
            refine ⟨j + 1, hjl, by omega, ?_⟩
            refine Weak.fam [] rfl (fun i hi => by cases hi) ?_ ?_ (keepF (Nat.le_refl _) (fun _ _ => ⟨rfl, rfl⟩) (fun _ _ => ⟨rfl, rfl⟩) (fun _ _ => ⟨rfl, rfl⟩)) (fun i hi => by cases hi)
            · exact .cons (.bp rfl rfl) (.cons (.bp rfl rfl) (.cons (.imm rfl) (.cons (.bp rfl rfl) (.cons (.imm rfl) (.cons (.rp rfl rfl rfl) (.cons (.rs rfl rfl rfl rfl) (.cons (.imm rfl) (.cons (.imm rfl) (.cons (.rs rfl rfl rfl rfl) (.cons (.imm rfl) (.cons (.imm rfl) (.cons (.rs rfl rfl rfl rfl) (.cons (.imm rfl) (.cons (.int (by rw [Zaj (by omega) (by omega)]; rfl)) .nil))))))))))))))
            · refine .old rfl rfl (GB.one (.cons (.rs rfl rfl rfl rfl) .nil) (fun e => by cases e)) (.old rfl rfl (GB.one (.cons .any .nil) (fun e => by cases e)) (.old rfl rfl (GB_fun1 (fun q hq => keepA rfl (fun h => show Zbi ls (pI i) (rI i (k + 1)) (1000, q, 0) = _ from Zbu hq (by unfold pI; rw [Nat.blt_eq]; exact h)) rfl rfl rfl)) (.old rfl rfl (GB.one (.cons (.imm rfl) (.cons (.imm rfl) (.cons (.rs rfl rfl rfl rfl) .nil))) (fun e => by cases e)) (.old rfl rfl (keepRowN (fun q h1 hq => keepX rfl rfl (fun h2 => (show Zbi ls (pI i) (rI i (k + 1)) (1001, i, q) = some (insR (l.getD q default).ins) from by rw [Zbp hlt (by rw [hlbe]; exact hq) (Zel.2 (.inr ⟨rfl, by omega⟩)), hlbe])) rfl)) (.old rfl rfl (GB.row (Nat.le_refl _) (fun q hq => GVs.upd (fun e => ?_) (fun e => ?_)) (fun _ _ _ => rfl)) .nil)))))
              · have e' : q = j := by rw [e, hzj]
                subst e'
                show GVs _ _ _ (Zbs { insJ S b.ins q (0 + (q : Int).toNat) with f := (Zb5 S).getD (insJ S b.ins q (0 + (q : Int).toNat)).f.toNat 0 }) (Zbs (insJ S b.ins (q + 1) q))
                rw [hxj, insJ_lt (Nat.lt_succ_self q), g3]
                unfold renI
                rw [if_pos h11]
                exact GVs.imm rfl
              · have e' : q ≠ j := by rw [hzj] at e; exact e
                refine GVs.eqI rfl ?_
                show Zbs (insJ S b.ins j q) = Zbs (insJ S b.ins (j + 1) q)
                by_cases h1 : q < j
                · rw [insJ_lt h1, insJ_lt (by omega)]
                · rw [insJ_ge (by omega), insJ_ge (by omega)]
          · have h11 : ¬ (b.ins.getD j default).op = 11 := by rw [hxj] at hb; simpa using hb
            clear hb
            (repeat' (refine Zac tok (by rfl) ?_; conv => whnf))
            refine ⟨j + 1, hjl, by omega, ?_⟩
            refine Weak.fam [] rfl (fun i hi => by cases hi) ?_ ?_ (keepF (Nat.le_refl _) (fun _ _ => ⟨rfl, rfl⟩) (fun _ _ => ⟨rfl, rfl⟩) (fun _ _ => ⟨rfl, rfl⟩)) (fun i hi => by cases hi)
            · exact .cons (.bp rfl rfl) (.cons (.bp rfl rfl) (.cons (.imm rfl) (.cons (.bp rfl rfl) (.cons (.imm rfl) (.cons (.rp rfl rfl rfl) (.cons (.rs rfl rfl rfl rfl) (.cons (.imm rfl) (.cons (.imm rfl) (.cons (.rs rfl rfl rfl rfl) (.cons (.imm rfl) (.cons (.imm rfl) (.cons (.rs rfl rfl rfl rfl) (.cons (.imm rfl) (.cons (.int (by rw [Zaj (by omega) (by omega)]; rfl)) .nil))))))))))))))
            · refine .old rfl rfl (GB.one (.cons (.rs rfl rfl rfl rfl) .nil) (fun e => by cases e)) (.old rfl rfl (GB.one (.cons .any .nil) (fun e => by cases e)) (.old rfl rfl (GB_fun1 (fun q hq => keepA rfl (fun h => show Zbi ls (pI i) (rI i (k + 1)) (1000, q, 0) = _ from Zbu hq (by unfold pI; rw [Nat.blt_eq]; exact h)) rfl rfl rfl)) (.old rfl rfl (GB.one (.cons (.imm rfl) (.cons (.imm rfl) (.cons (.rs rfl rfl rfl rfl) .nil))) (fun e => by cases e)) (.old rfl rfl (keepRowN (fun q h1 hq => keepX rfl rfl (fun h2 => (show Zbi ls (pI i) (rI i (k + 1)) (1001, i, q) = some (insR (l.getD q default).ins) from by rw [Zbp hlt (by rw [hlbe]; exact hq) (Zel.2 (.inr ⟨rfl, by omega⟩)), hlbe])) rfl)) (.old rfl rfl (GB.rowI (Nat.le_refl _) (fun q hq => ⟨rfl, ?_⟩)) .nil)))))
              show Zbs (insJ S b.ins j q) = Zbs (insJ S b.ins (j + 1) q)
              by_cases h1 : q < j
              · rw [insJ_lt h1, insJ_lt (by omega)]
              · by_cases h2 : q = j
                · subst h2
                  rw [insJ_ge (Nat.le_refl _), insJ_lt (Nat.lt_succ_self q)]
                  unfold renI; rw [if_neg h11]
                · rw [insJ_ge (by omega), insJ_ge (by omega)]
        · have hjl : j = b.ins.length := by simp only [decide_eq_false_iff_not] at hb; omega
          clear hb
          subst hjl
          have hrest : ∀ (h : Zan) (q : Nat), q < l.length → q ≠ k → GVs (srcL []) h (orH (Za2 [((1, 0, 0), .row false 1 1 (fun _ => [.rs (900, 0, 0) 3 0 ls.length])), ((2, 0, 0), anyB), ((900, 0, 0), funR1 ls (fun j => sel (Nat.blt j i) (Zbk (mapB (renC S) (ls.getD j default).blocks (ls.getD j default).blocks.length)) (sel (Nat.beq j i) (.rs (901, 0, 0) 14 0 l.length) (mem1 ls j)))), ((9, 0, 0), .row false 3 1 (fun _ => [iv (ls.getD i default).params, iv (ls.getD i default).regs, .rs (901, 0, 0) 14 0 l.length])), ((901, 0, 0), rowN S i (k + 1) l (ownI i l))]) (Zbi ls (pI i) (rI i (k + 1)))) (blkO ((mapB (renC S) l k).getD q default) (sel (Nat.blt q k) (inss (renC S (l.getD q default)).ins) (sel (Nat.beq q k) (.rs (902, 0, 0) 7 0 b.ins.length) (ownI i l q))))
              (blkO ((mapB (renC S) l (k + 1)).getD q default) (sel (Nat.blt q (k + 1)) (inss (renC S (l.getD q default)).ins) (ownI i l q))) := fun h q hq e => by
            have em : (mapB (renC S) l k).getD q default = (mapB (renC S) l (k + 1)).getD q default := by
              rw [mapB_at hq, mapB_at hq]
              by_cases h1 : q < k
              · rw [if_pos h1, if_pos (by omega)]
              · rw [if_neg h1, if_neg (by omega)]
            rw [em]
            by_cases h1 : q < k
            · exact Zb6 (.cc (Zat h1) (Zat (by omega)) (.imm rfl))
            · exact Zb6 (.cc ((Za9 (by omega)).trans (Zd8 e)) (Za9 (by omega)) (.rs (show Zbi ls (pI i) (rI i (k + 1)) (1001, i, q) = some (insR (l.getD q default).ins) from by rw [Zbp hlt (by rw [hlbe]; exact hq) (Zel.2 (.inr ⟨rfl, by omega⟩)), hlbe]) rfl rfl rfl))
          have hone : ∀ (h : Zan) (c : Zbd) (q : Nat), q = k → { c with ins := b.ins.map (renI S) } = renC S b → h (902, 0, 0) = some (rowJ S b.ins b.ins.length) → GVs (srcL []) h (orH (Za2 [((1, 0, 0), .row false 1 1 (fun _ => [.rs (900, 0, 0) 3 0 ls.length])), ((2, 0, 0), anyB), ((900, 0, 0), funR1 ls (fun j => sel (Nat.blt j i) (Zbk (mapB (renC S) (ls.getD j default).blocks (ls.getD j default).blocks.length)) (sel (Nat.beq j i) (.rs (901, 0, 0) 14 0 l.length) (mem1 ls j)))), ((9, 0, 0), .row false 3 1 (fun _ => [iv (ls.getD i default).params, iv (ls.getD i default).regs, .rs (901, 0, 0) 14 0 l.length])), ((901, 0, 0), rowN S i (k + 1) l (ownI i l))]) (Zbi ls (pI i) (rI i (k + 1)))) (blkO c (.rs (902, 0, 0) 7 0 b.ins.length))
              (blkO ((mapB (renC S) l (k + 1)).getD q default) (sel (Nat.blt q (k + 1)) (inss (renC S (l.getD q default)).ins) (ownI i l q))) := fun h c q e hc h902 => by
            subst e
            have em : (mapB (renC S) l (q + 1)).getD q default = renC S b := by rw [mapB_at hkl, if_pos (Nat.lt_succ_self q), hbk]
            rw [em, ← hc]
            show GVs _ _ _ (blkO c _) (blkO c _)
            refine Zb6 (.cc rfl ((Zat (Nat.lt_succ_self q)).trans (by rw [hbk]; rfl)) (frzJ (hd_of rfl (treeG_hd (fun a b => ⟨(fun e => by have e' := Option.some.inj e; cases e'), fun e => by have e' := Option.some.inj e; cases e'⟩))) h902))
          ((repeat' ((fail_if_success (show AWp _ _ _ (Code.region 27 _ _) _ _)); (fail_if_success (show AWp _ _ _ (Code.region 28 _ _) _ _)); first | (refine Zac tok (by rfl) ?_; conv => whnf) | (refine Zai ?_; conv => whnf) | refine Zah rfl (fun hb => ?_) (fun hb => ?_) | (refine @And.intro (Zaa _ _ _ _) _ ?_ ?_; rotate_left; (conv => whnf); rotate_right))); all_goals (try ((guard_target = Zaa _ _ _ _); refine Zae ?_; (all_goals (try simp only [Zaa, kzz, kz11, kz12, maxL, Zab] at *)); all_goals omega)))
          · have h4 : b.fin.kind = 4 := by rw [hmk] at hb; simpa using hb
            clear hb
            obtain ⟨g1, g2, g3⟩ := hcb b.fin.f (Zex.2 (.inr ⟨h4, rfl⟩))
            have g1' : 0 ≤ ((mapB (renC S) l k).getD k default).fin.f := by rw [hmk]; exact g1
            have g2' : ((mapB (renC S) l k).getD k default).fin.f < (Zb5 S).length := by rw [hmk, hal]; exact g2
            ((repeat' first | (refine Zac tok (by rfl) ?_; conv => whnf) | (refine @And.intro (Zaa _ _ _ _) _ ?_ ?_; rotate_left; (conv => whnf); rotate_right)); all_goals (try ((guard_target = Zaa _ _ _ _); refine Zae ?_; (all_goals (try simp only [Zaa, kzz, kz11, kz12, maxL, Zab] at *)); all_goals omega)))
            refine fAV (y := .rs (902, 0, 0) 7 0 b.ins.length) (show sel (Nat.blt k k) _ (sel (Nat.beq k k) _ _) = _ by rw [Za9 (Nat.le_refl _), Zch]) ?_
            conv => whnf
            (repeat' (refine Zac tok (by rfl) ?_; conv => whnf))
            refine ⟨k + 1, hkl, by omega, ?_⟩
            refine Weak.fam [] rfl (fun i hi => by cases hi) ?_ ?_ (keepF (Nat.le_refl _) (fun _ _ => ⟨rfl, rfl⟩) (fun _ _ => ⟨rfl, rfl⟩) (fun _ _ => ⟨rfl, rfl⟩)) (fun i hi => by cases hi)
            · exact .cons (.bp rfl rfl) (.cons (.bp rfl rfl) (.cons (.imm rfl) (.cons (.bp rfl rfl) (.cons (.rs rfl rfl rfl rfl) (.cons (.imm rfl) (.cons (.imm rfl) (.cons (.rs rfl rfl rfl rfl) (.cons (.imm rfl) (.cons (.int (by rw [Zaj (by omega) (by omega)]; rfl)) .nil)))))))))
            · refine .old rfl rfl (GB.one (.cons (.rs rfl rfl rfl rfl) .nil) (fun e => by cases e)) (.old rfl rfl (GB.one (.cons .any .nil) (fun e => by cases e)) (.old rfl rfl (GB_fun1 (fun q hq => keepA rfl (fun h => show Zbi ls (pI i) (rI i (k + 1)) (1000, q, 0) = _ from Zbu hq (by unfold pI; rw [Nat.blt_eq]; exact h)) rfl rfl rfl)) (.old rfl rfl (GB.one (.cons (.imm rfl) (.cons (.imm rfl) (.cons (.rs rfl rfl rfl rfl) .nil))) (fun e => by cases e)) (.old rfl rfl (GB.row (Nat.le_refl _) (fun q hq => GVs.upd (fun e => ?_) (fun e => ?_)) (fun e => by cases e)) .nil))))
              · refine hone _ { (mapB (renC S) l k).getD k default with fin := { ((mapB (renC S) l k).getD k default).fin with f := (Zb5 S).getD ((mapB (renC S) l k).getD k default).fin.f.toNat 0 } } q e ?_ rfl
                rw [hmk, g3]; unfold renC renE; rw [if_pos h4]
              · exact hrest _ q hq e
          · have h4 : ¬ b.fin.kind = 4 := by rw [hmk] at hb; simpa using hb
            clear hb
            (repeat' (refine Zac tok (by rfl) ?_; conv => whnf))
            refine ⟨k + 1, hkl, by omega, ?_⟩
            refine Weak.fam [] rfl (fun i hi => by cases hi) ?_ ?_ (keepF (Nat.le_refl _) (fun _ _ => ⟨rfl, rfl⟩) (fun _ _ => ⟨rfl, rfl⟩) (fun _ _ => ⟨rfl, rfl⟩)) (fun i hi => by cases hi)
            · exact .cons (.bp rfl rfl) (.cons (.bp rfl rfl) (.cons (.imm rfl) (.cons (.bp rfl rfl) (.cons (.rs rfl rfl rfl rfl) (.cons (.imm rfl) (.cons (.imm rfl) (.cons (.rs rfl rfl rfl rfl) (.cons (.imm rfl) (.cons (.int (by rw [Zaj (by omega) (by omega)]; rfl)) .nil)))))))))
            · refine .old rfl rfl (GB.one (.cons (.rs rfl rfl rfl rfl) .nil) (fun e => by cases e)) (.old rfl rfl (GB.one (.cons .any .nil) (fun e => by cases e)) (.old rfl rfl (GB_fun1 (fun q hq => keepA rfl (fun h => show Zbi ls (pI i) (rI i (k + 1)) (1000, q, 0) = _ from Zbu hq (by unfold pI; rw [Nat.blt_eq]; exact h)) rfl rfl rfl)) (.old rfl rfl (GB.one (.cons (.imm rfl) (.cons (.imm rfl) (.cons (.rs rfl rfl rfl rfl) .nil))) (fun e => by cases e)) (.old rfl rfl (GB.row (Nat.le_refl _) (fun q hq => ?_) (fun e => by cases e)) .nil))))
              by_cases e : q = k
              · subst e
                show GVs _ _ _ (blkO ((mapB (renC S) l q).getD q default) (sel (Nat.blt q q) _ (sel (Nat.beq q q) _ _))) _
                rw [Za9 (Nat.le_refl _), Zch]
                refine hone _ ((mapB (renC S) l q).getD q default) q rfl ?_ rfl
                rw [hmk]; unfold renC renE; rw [if_neg h4]
              · exact hrest _ q hq e
      · have hkl : k = l.length := by simp only [decide_eq_false_iff_not] at hb; omega
        clear hb
        subst hkl
        (repeat' (refine Zac tok (by rfl) ?_; conv => whnf))
        refine ⟨i + 1, hlt, by omega, ?_⟩
        refine Weak.fam [] rfl (fun i hi => by cases hi) ?_ ?_ ?_ (fun i hi => by cases hi)
        · exact .cons (.bp rfl rfl) (.cons (.bp rfl rfl) (.cons (.imm rfl) (.cons (.rs rfl rfl rfl rfl) (.cons (.imm rfl) (.cons (.int (by rw [Zaj (by omega) (by omega)]; rfl)) .nil)))))
        · refine .old rfl rfl (GB.one (.cons (.rs rfl rfl rfl rfl) .nil) (fun e => by cases e)) (.old rfl rfl (GB.one (.cons .any .nil) (fun e => by cases e)) (.old rfl rfl (GB.row (Nat.le_refl _) (fun q hq => .cons (.imm rfl) (.cons (.imm rfl) (.cons ?_ .nil))) (fun e => by cases e)) .nil))
          by_cases h1 : q < i
          · exact .cc (Zat h1) (Zat (Nat.lt_succ_of_lt h1)) (.imm rfl)
          · by_cases h2 : q = i
            · subst h2
              refine .cc (x' := .rs (901, 0, 0) 14 0 l.length) (y' := Zbk (mapB (renC S) l l.length)) ((Za9 (Nat.le_refl _)).trans Zch) ((Zat (Nat.lt_succ_self q)).trans (by rw [hlbe]))
                (.frz (hd_of rfl (treeG_hd (fun a b => ⟨(fun e => by have e' := Option.some.inj e; cases e'), fun e => by have e' := Option.some.inj e; cases e'⟩))) (imm := false) (k := l.length) rfl (Nat.le_of_eq (Nat.zero_add _)) (mapB_len _ _).symm (fun x hx => ?_) (fun _ _ => rfl))
              rw [Nat.zero_add]
              show GVs _ _ _ (blkO _ (sel (Nat.blt x l.length) _ _)) (Za3 ((mapB (renC S) l l.length).getD x default))
              rw [Zat hx, mapB_at hx, if_pos hx]
              exact GVs.imm rfl
            · exact .cc ((Za9 (Nat.le_of_not_lt h1)).trans (Zd8 h2)) (Za9 (show i + 1 ≤ q by omega)) (.rs (show Zbi ls (pO (i + 1)) (rO (i + 1)) (1000, q, 0) = _ from Zbu hq (by unfold pO; rw [Nat.ble_eq]; omega)) rfl rfl rfl)
        · intro j b e
          rcases Zb2 e with ⟨p, rfl, hp, h2, rfl⟩ | ⟨p, q, rfl, hp, hq, h2, rfl⟩
          · have h2' : i < p := by unfold pO at h2; rw [Nat.ble_eq] at h2; omega
            exact HOk.mk rfl (show Zbi ls (pI i) (rI i l.length) (1000, p, 0) = _ from Zbu hp (by unfold pI; rw [Nat.blt_eq]; exact h2')) (Zcl (fun q hq => .cc (Zat hq) (Zat hq) (.rs (show Zbi ls (pO (i + 1)) (rO (i + 1)) (1001, p, q) = _ from Zbp hp hq (by unfold rO; rw [Nat.ble_eq]; omega)) rfl rfl rfl)))
          · have h2' : i < p := by unfold rO at h2; rw [Nat.ble_eq] at h2; omega
            exact HOk.mk rfl (show Zbi ls (pI i) (rI i l.length) (1001, p, q) = _ from Zbp hp hq (Zel.2 (.inl h2'))) (Zc2 _)
    · have hil : i = ls.length := by simp only [decide_eq_false_iff_not] at hb; omega
      clear hb
      subst hil
      (repeat' first | (refine Zac tok (by rfl) ?_; conv => whnf) | (refine Zak ?_; conv => whnf))
      refine ⟨_, rfl, Rel.tup (.cons (Rel.agg (.cons ?_ .nil)) (.cons (Rel.int (by simp [errM, hr])) .nil))⟩
      have hdm : deadM ⟨fs⟩ = ⟨ls.map (renF S)⟩ := by unfold deadM; rw [if_pos hr, hM2]
      rw [hdm]
      show Rel _ _ (.sl 3 (ls.map (renF S)).length _)
      rw [List.length_map]
      refine Rel.rs (imm := false) (k := ls.length) (f := fun j => [iv (ls.getD j default).params, iv (ls.getD j default).regs, sel (Nat.blt j ls.length) (Zbk (mapB (renC S) (ls.getD j default).blocks (ls.getD j default).blocks.length)) (mem1 ls j)]) rfl (Nat.le_of_eq (Nat.zero_add _)) (fun j hj => ?_)
      rw [Nat.zero_add, Zat hj, mapB_all]
      have e1 : (ls.map (renF S)).getD j default = renF S (ls.getD j default) := by
        rw [List.getD_eq_getElem?_getD, List.getElem?_map, List.getElem?_eq_getElem hj, Zbm default hj]; rfl
      rw [e1]
      exact Rels.imm rfl
end Go.Proofs.Ytmanpbgaihdalaa
namespace Go.Proofs.Ytmanpbgaihdalaa
open Go Dv
set_option maxRecDepth 10000
set_option linter.unusedSimpArgs false
end Go.Proofs.Ytmanpbgaihdalaa
namespace Go.Proofs.Ytmanpbgaihdalaa
open Go Dv
set_option maxRecDepth 10000
set_option linter.unusedSimpArgs false
structure Iv2 (len : Nat) (D : Nat → List Bool → Bool) (is : List Bool) (n : Nat) (js : List Bool) : Prop where
  sz : js.length = len
  be : Zfu len D js
  le : leL is js
  don : ∀ j, j < n → D j is = true → js.getD j false = true
theorem Iv2.set {len : Nat} {D : Nat → List Bool → Bool} {is js : List Bool} {n m : Nat} (h : Iv2 len D is n js) (hD : MonoD D) (hm : m < len) (hd : D m js = true) : Iv2 len D is n (js.set m true) := by
  have hs := h.sz
  refine ⟨by simp [hs], fun c hc i e => ?_, h.le.trans (leL_set _ _), fun j hj hd => leL_set _ _ j (h.don j hj hd)⟩
  rw [set_get (by omega), Bool.or_eq_true] at e
  rcases e with e | e
  · have : m = i := by simpa using e
    subst this
    exact hc.cl m hm (hD m js c (h.be c hc) hd)
  · exact h.be c hc i e
structure Iv0 (len : Nat) (D : Nat → List Bool → Bool) (r : Nat) (is : List Bool) : Prop where
  sz : is.length = len
  be : Zfu len D is
  pr : Closed len D is ∨ r ≤ cnt is
theorem Iv0.next {len : Nat} {D : Nat → List Bool → Bool} {is js : List Bool} {r : Nat} (h0 : Iv0 len D r is) (h : Iv2 len D is len js) : Iv0 len D (r + 1) js := by
  refine ⟨h.sz, h.be, ?_⟩
  obtain ⟨h1, h2⟩ := cnt_mono (by rw [h0.sz, h.sz]) h.le
  by_cases hc : cnt js ≤ cnt is
  · have e := h2 hc
    left
    refine ⟨h.sz, fun n hn hd => ?_⟩
    exact h.don n hn (by rw [e]; exact hd)
  · rcases h0.pr with hcl | hcl
    · exfalso
      have e1 := h.be is hcl
      have := (cnt_mono (by rw [h0.sz, h.sz]) e1).1
      omega
    · right; omega
theorem Iv0.done {len : Nat} {D : Nat → List Bool → Bool} (hD : MonoD D) {is : List Bool} (h0 : Iv0 len D (len + 1) is) : is = lfp len D := by
  refine lfp_uniq hD ?_ h0.be
  rcases h0.pr with h | h
  · exact h
  · have := cnt_le (a := is); rw [h0.sz] at this; omega
end Go.Proofs.Ytmanpbgaihdalaa
namespace Go.Proofs.Ytmanpbgaihdalaa
open Go Dv
set_option maxRecDepth 10000
set_option linter.unusedSimpArgs false
end Go.Proofs.Ytmanpbgaihdalaa
namespace Go.Proofs.Ytmanpbgaihdalaa
open Go Dv
set_option maxRecDepth 10000
set_option linter.unusedSimpArgs false
end Go.Proofs.Ytmanpbgaihdalaa
namespace Go.Proofs.Ytmanpbgaihdalaa
open Go Dv Go.ChangeShapes Go.WideShapes Go.ChangeAt Go.RowKit
open Go.Proofs.Ytmanpbgaihdalaa
set_option maxRecDepth 10000
set_option linter.unusedVariables false
section
variable {H : Type} {enc : TypeId × Value → H} {w : World}
abbrev Sm (H : Type) : DataW H → Prop := fun d => Rows.uptoBulk d ≤ 1048576
theorem bulk_all {ds : List (DataW H)} {n : Nat} (h : Rows.uptoBulkAll ds ≤ n) : ∀ d ∈ ds, Rows.uptoBulk d ≤ n := by
  induction ds with
  | nil => intro d hd; cases hd
  | cons x r ih =>
    simp only [Rows.uptoBulkAll] at h
    intro d hd
    simp only [List.mem_cons] at hd
    rcases hd with rfl | hd
    · omega
    · exact ih (by omega) d hd
theorem bulk_pos (d : DataW H) : 1 ≤ Rows.uptoBulk d := by
  cases d with
  | lit l => cases l <;> simp only [Rows.uptoBulk] <;> omega
  | _ => simp only [Rows.uptoBulk]; omega
theorem bulk_len {ds : List (DataW H)} {n : Nat} (h : Rows.uptoBulkAll ds ≤ n) : ds.length ≤ n := by
  induction ds generalizing n with
  | nil => simp
  | cons x r ih =>
    simp only [Rows.uptoBulkAll] at h
    have := bulk_pos x
    have := ih (n := n - Rows.uptoBulk x) (by omega)
    simp only [List.length_cons]; omega
theorem sm_agg (ds : List (DataW H)) (h : Sm H (.agg ds)) : ∀ d ∈ ds, Sm H d := by
  simp only [Sm, Rows.uptoBulk] at h; exact bulk_all (by omega)
theorem sm_slice (es sp : List (DataW H)) (h : Sm H (.slice es sp)) : es.length ≤ maxL ∧ ∀ x ∈ es, Sm H x := by
  simp only [Sm, Rows.uptoBulk] at h
  have h1 : Rows.uptoBulkAll es ≤ 1048576 := by omega
  exact ⟨Nat.le_trans (bulk_len h1) (by decide), bulk_all h1⟩
theorem Zd9 : Rd enc Try.prog w (Sm H) 3 Int (fun n => [iv n]) := Rd.int Try.underlying3
theorem rd_u16 : Rd enc Try.prog w (Sm H) 55 Int (fun n => [.int .u16 n]) := Rd.int Try.underlying55
theorem rd_bool : Rd enc Try.prog w (Sm H) 4 Bool (fun b => [.bool b]) := Rd.bool Try.underlying4
theorem rd_ints : Rd enc Try.prog w (Sm H) 31 (List Int) (fun l => [ints l]) := Rd.slice Try.underlying31 (by decide +kernel) (Nat.le_refl _) (fun _ => ⟨rfl, rfl⟩) Zd9 sm_slice
theorem rd_u16s : Rd enc Try.prog w (Sm H) 37 (List Int) (fun l => [u16s l]) := Rd.slice Try.underlying37 (by decide +kernel) (Nat.le_refl _) (fun _ => ⟨rfl, rfl⟩) rd_u16 sm_slice
theorem rd_Ins : Rd enc Try.prog w (Sm H) 57 Ins Zbs :=
  Rd.map (fun x => ⟨x.1, x.2.1, x.2.2.1, x.2.2.2.1, x.2.2.2.2.1, x.2.2.2.2.2.1, x.2.2.2.2.2.2.1⟩)
    (Rd.struct (fl := [(3, 1), (3, 1), (3, 1), (3, 1), (55, 1), (3, 1), (31, 1)]) Try.underlying57 (.cons Zd9 (.cons Zd9 (.cons Zd9 (.cons Zd9 (.cons rd_u16 (.cons Zd9 (.cons rd_ints .nil)))))))
      rfl (by decide +kernel) (by decide +kernel) sm_agg) (fun _ => rfl)
theorem rd_inss : Rd enc Try.prog w (Sm H) 40 (List Ins) (fun l => [inss l]) := Rd.slice Try.underlying40 (by decide +kernel) (by decide) (fun _ => ⟨rfl, rfl⟩) rd_Ins sm_slice
theorem rd_End : Rd enc Try.prog w (Sm H) 36 End Zdr :=
  Rd.map (fun x => ⟨x.1, x.2.1, x.2.2.1, x.2.2.2.1, x.2.2.2.2.1, x.2.2.2.2.2.1, x.2.2.2.2.2.2.1, x.2.2.2.2.2.2.2.1⟩)
    (Rd.struct (fl := [(3, 1), (3, 1), (3, 1), (3, 1), (31, 1), (3, 1), (3, 1), (3, 1)]) Try.underlying36 (.cons Zd9 (.cons Zd9 (.cons Zd9 (.cons Zd9 (.cons rd_ints (.cons Zd9 (.cons Zd9 (.cons Zd9 .nil))))))))
      rfl (by decide +kernel) (by decide +kernel) sm_agg) (fun _ => rfl)
theorem rd_Pad : Rd enc Try.prog w (Sm H) 39 Pad encPad :=
  Rd.map (fun x => ⟨x.1, x.2.1, x.2.2.1, x.2.2.2.1⟩)
    (Rd.struct (fl := [(3, 1), (37, 1), (4, 1), (4, 1)]) Try.underlying39 (.cons Zd9 (.cons rd_u16s (.cons rd_bool (.cons rd_bool .nil))))
      rfl (by decide +kernel) (by decide +kernel) sm_agg) (fun _ => rfl)
theorem rd_Block : Rd enc Try.prog w (Sm H) 42 Zbd Za3 :=
  Rd.map (fun x => ⟨x.1, x.2.1, x.2.2.1, x.2.2.2.1⟩)
    (Rd.struct (fl := [(4, 1), (39, 4), (40, 1), (36, 8)]) Try.underlying42 (.cons rd_bool (.cons rd_Pad (.cons rd_inss (.cons rd_End .nil))))
      rfl (by decide +kernel) (by decide +kernel) sm_agg) (fun _ => rfl)
theorem rd_blocks : Rd enc Try.prog w (Sm H) 32 (List Zbd) (fun l => [Zbk l]) := Rd.slice Try.underlying32 (by decide +kernel) (by decide) (fun _ => ⟨rfl, rfl⟩) rd_Block sm_slice
theorem rd_Func : Rd enc Try.prog w (Sm H) 34 Func Za1 :=
  Rd.map (fun x => ⟨x.1, x.2.1, x.2.2.1⟩)
    (Rd.struct (fl := [(3, 1), (3, 1), (32, 1)]) Try.underlying34 (.cons Zd9 (.cons Zd9 (.cons rd_blocks .nil)))
      rfl (by decide +kernel) (by decide +kernel) sm_agg) (fun _ => rfl)
theorem rd_funcs : Rd enc Try.prog w (Sm H) 22 (List Func) (fun l => [funcss l]) := Rd.slice Try.underlying22 (by decide +kernel) (by decide) (fun _ => ⟨rfl, rfl⟩) rd_Func sm_slice
theorem rd_Module : Rd enc Try.prog w (Sm H) 24 Zay Zba :=
  Rd.map (fun x => ⟨x.1⟩)
    (Rd.struct (fl := [(22, 1)]) Try.underlying24 (.cons rd_funcs .nil)
      rfl (by decide +kernel) (by decide +kernel) sm_agg) (fun _ => rfl)
end
theorem small_of {H : Type} {ds gs : List (DataW H)} (hk : Rows.uptoSmall H (ds ++ gs) = true) : ∀ d ∈ ds, Sm H d := by
  have h := of_decide_eq_true hk
  exact fun d hd => bulk_all h d (List.mem_append_left _ hd)
end Go.Proofs.Ytmanpbgaihdalaa
namespace Go.Proofs.Ytmanpbgaihdalaa
open Go Dv
set_option maxRecDepth 10000
set_option linter.unusedSimpArgs false
end Go.Proofs.Ytmanpbgaihdalaa
namespace Go.Proofs.Ytmanpbgaihdalaa
open Go Dv
set_option maxRecDepth 10000
set_option linter.unusedSimpArgs false
def nilPad : Pad := ⟨0, [], false, false⟩
end Go.Proofs.Ytmanpbgaihdalaa
namespace Go.Proofs.Ytmanpbgaihdalaa
open Go Dv
set_option maxRecDepth 10000
set_option linter.unusedSimpArgs false
end Go.Proofs.Ytmanpbgaihdalaa
namespace Go.Proofs.Ytmanpbgaihdalaa
open Go Dv
set_option maxRecDepth 10000
set_option linter.unusedSimpArgs false
end Go.Proofs.Ytmanpbgaihdalaa
namespace Go.Proofs.Ytmanpbgaihdalaa
open Go Dv
set_option maxRecDepth 10000
set_option linter.unusedSimpArgs false
theorem c_dFuncF (f : Func) : FC Try.prog 59 [.agg (Za1 f)] (.agg (Za1 (Zbj f))) := by
  refine (c_dFunc 0 f).fc (Rel.agg (.cons (Rel.imm rfl) (.cons (Rel.imm rfl) (.cons ?_ .nil))))
  refine Rel.rs (imm := false) (k := (Zbj f).blocks.length) (f := fun q => blkO ((Zbj f).blocks.getD q default) (sel (Nat.blt q (Zbj f).blocks.length) (.rs (1001, 0, q) 7 0 ((Zbj f).blocks.getD q default).ins.length) .any)) (Zbr (Zbj f)) (Nat.le_of_eq (Nat.zero_add _)) (fun q hq => ?_)
  rw [Nat.zero_add, Zat hq]
  refine Rels.cons (Rel.imm rfl) (Rels.cons (Rel.imm rfl) (Rels.cons (Rel.imm rfl) (Rels.cons (Rel.imm rfl) (Rels.cons (Rel.imm rfl) (Rels.cons (Rel.rs (imm := true) (k := ((Zbj f).blocks.getD q default).ins.length) (f := fun x => Zbs (((Zbj f).blocks.getD q default).ins.getD x default)) (Zbg hq) (Nat.le_of_eq (Nat.zero_add _)) (fun x hx => by rw [Nat.zero_add]; exact Rels.imm rfl)) (Rels.imm rfl))))))
def awDB (to : Int) (kind : Int) : Zbd := ⟨false, nilPad, [], ⟨kind, 0, 0, 0, [], to, 0, 0⟩⟩
def awD : Func := ⟨0, 1, [awDB 2 2, awDB 0 1, awDB 0 1]⟩
def awDF : Func := ⟨0, 1, [awDB 1 2, awDB 0 1]⟩
theorem r13_awD : Zbj awD = awDF := by
  unfold Zbj
  rw [← Fl.walked_reach]
  rw [show (Fl.Zc3 awD).1 = [true, false, true] from by decide +kernel]
  rw [if_pos (by decide +kernel)]
  decide +kernel
theorem r13_awDF : Zbj awDF = awDF := by
  unfold Zbj
  rw [← Fl.walked_reach]
  rw [show (Fl.Zc3 awDF).1 = [true, true] from by decide +kernel]
  rw [if_pos (by decide +kernel)]
  decide +kernel
theorem dead_aw : deadM ⟨[awDF, awDF]⟩ = ⟨[awDF]⟩ := by
  have hc : clrM ⟨[awDF, awDF]⟩ = ⟨[awDF, awDF]⟩ := by unfold clrM; simp only [List.map_cons, List.map_nil, r13_awDF]
  have hs : Zc4 ⟨[awDF, awDF]⟩ = [true, false] := by
    unfold Zc4 toM; rw [hc]; decide +kernel
  unfold deadM
  rw [if_pos (by decide +kernel)]
  unfold ref13M
  rw [hs, hc]
  decide +kernel
set_option maxHeartbeats 4000000 in
theorem c_awake13 : FC Try.prog 57 [] (.bool true) := by
  refine Za5 tok Try.func57 rfl (by decide +kernel) (Nat.le_of_ble_eq_true rfl) ?_
  have h1 : FC Try.prog 59 [.agg (Za1 awD)] (.agg (Za1 awDF)) := by
    have := c_dFuncF awD
    rw [r13_awD] at this; exact this
  have h2 : FC Try.prog 58 [.agg (Zba ⟨[awDF, awDF]⟩)] (.tup [.agg (Zba ⟨[awDF]⟩), iv 0]) := by
    have := c_dModule ⟨[awDF, awDF]⟩
    rw [dead_aw, show errM ⟨[awDF, awDF]⟩ = 0 from by decide +kernel] at this; exact this
  have e1 : awDF.blocks.length = 2 := rfl
  have e3 : ([awDF] : List Func).length = 1 := rfl
  (repeat' first | refine Zad ?_ | (refine Zac tok (by rfl) ?_; conv => whnf))
  refine .inr ⟨_, _, _, uG (QH.give (args' := [.agg (Za1 awD)]) (rd := [Zcy (some 11)]) h1 (.cons (.agg (.cons (.imm rfl) (.cons (.imm rfl) (.cons (.rsN rfl (by simp) (Nat.le_refl _) rfl (ltS (.cons (.imm rfl) (.cons (.imm rfl) (.cons .nsl (.cons (.imm rfl) (.cons (.imm rfl) (.cons .nsl (.cons (.imm rfl) (.cons (.imm rfl) (.cons (.imm rfl) (.cons (.imm rfl) (.cons .nsl (.cons (.imm rfl) (.cons (.imm rfl) (.cons (.imm rfl) .nil)))))))))))))) (ltS (.cons (.imm rfl) (.cons (.imm rfl) (.cons .nsl (.cons (.imm rfl) (.cons (.imm rfl) (.cons .nsl (.cons (.imm rfl) (.cons (.imm rfl) (.cons (.imm rfl) (.cons (.imm rfl) (.cons .nsl (.cons (.imm rfl) (.cons (.imm rfl) (.cons (.imm rfl) .nil)))))))))))))) (ltS (.cons (.imm rfl) (.cons (.imm rfl) (.cons .nsl (.cons (.imm rfl) (.cons (.imm rfl) (.cons .nsl (.cons (.imm rfl) (.cons (.imm rfl) (.cons (.imm rfl) (.cons (.imm rfl) (.cons .nsl (.cons (.imm rfl) (.cons (.imm rfl) (.cons (.imm rfl) .nil)))))))))))))) lt0)))) .nil)))) .nil) rfl), ?_⟩
  conv => whnf
  (repeat' first | refine Zad ?_ | (refine Zac tok (by rfl) ?_; conv => whnf) | (refine Zai ?_; conv => whnf) | (refine Zak ?_; conv => whnf) | refine Zah rfl (fun hb => ?_) (fun hb => ?_))
  · exfalso; revert hb; decide
  clear hb
  refine .inr ⟨_, _, _, uG (QH.give (args' := [.agg (Zba ⟨[awDF, awDF]⟩)]) (rd := [Zcy (some 21)]) h2 (.cons (.agg (.cons (.rsN rfl (by simp) (Nat.le_refl _) rfl (ltS (Ress.imms rfl) (ltS (Ress.imms rfl) lt0))) .nil)) .nil) rfl), ?_⟩
  conv => whnf
  ((repeat' first | refine Zad ?_ | (refine Zac tok (by rfl) ?_; conv => whnf) | (refine Zak ?_; conv => whnf) | (refine @And.intro (Zaa _ _ _ _) _ ?_ ?_; rotate_left; (conv => whnf); rotate_right)); all_goals (try ((guard_target = Zaa _ _ _ _); ((refine Zbn ?_; intro hgd; (conv at hgd => whnf))); (all_goals (try simp only [Zaa, kzz, kz11, kz12, maxL, Zab] at *)); all_goals omega)))
  exact ⟨_, rfl, Rel.bool rfl⟩
end Go.Proofs.Ytmanpbgaihdalaa
namespace Go.Proofs.Ytmanpbgaihdalaa
open Go Dv
set_option maxRecDepth 10000
set_option linter.unusedSimpArgs false
theorem nxt_len2 (b : Zbd) : (Fl.nxt b).length = Zd5 b := by
  unfold Fl.nxt Fl.Zc6 Zd5
  by_cases h2 : b.fin.kind = 2
  · simp [h2]
  · by_cases h3 : b.fin.kind = 3
    · simp [h3]
    · by_cases h4 : b.fin.kind = 4
      · simp [h4]
      · simp [h2, h3, h4]
theorem next_in {f : Func} {n : Nat} (hn : n < f.blocks.length) : Fl.next f n = (Fl.nxt (f.blocks.getD n default)).filter fun x => Fl.isIn f x := by
  have hin : Fl.isIn f n = true := by unfold Fl.isIn; simp; omega
  unfold Fl.next
  rw [if_pos hin]
  show List.filter _ (Fl.nxt (f.blocks.getD n default)) = _
  congr 1
  funext x; simp
theorem isIn_iff {f : Func} {x : Int} : Fl.isIn f x = true ↔ 0 ≤ x ∧ x < f.blocks.length := by
  unfold Fl.isIn
  cases h : decide (0 ≤ x) with
  | true => simp at h ⊢; omega
  | false => simp at h ⊢; omega
theorem Zfo {f : Func} {n : Nat} (hn : n < f.blocks.length) (h : ∀ x ∈ Fl.nxt (f.blocks.getD n default), 0 ≤ x ∧ x < f.blocks.length) : Fl.next f n = Fl.nxt (f.blocks.getD n default) := by
  rw [next_in hn, List.filter_eq_self]
  exact fun x hx => isIn_iff.2 (h x hx)
theorem nxt_mem {b : Zbd} : (0 < Zd5 b → b.fin.to ∈ Fl.nxt b) ∧ (b.fin.kind = 3 → b.fin.els ∈ Fl.nxt b) ∧ (b.fin.kind = 4 → b.fin.pad ∈ Fl.nxt b) := by
  unfold Fl.nxt Fl.Zc6 Zd5
  by_cases h2 : b.fin.kind = 2
  · simp [h2]
  · by_cases h3 : b.fin.kind = 3
    · simp [h3]
    · by_cases h4 : b.fin.kind = 4
      · simp [h4]
      · simp [h2, h3, h4]
theorem renN_id {R : List Bool} {b : Zbd} (h : ∀ x ∈ Fl.nxt b, (numB R x.toNat : Int) = x) : renN R b = b := by
  obtain ⟨m1, m2, m3⟩ := nxt_mem (b := b)
  have e1 : ren1 R b = b := by
    unfold ren1; split
    · rename_i hm; rw [h _ (m1 hm)]
    · rfl
  have e2 : ren2 R b = b := by
    unfold ren2; split
    · rename_i hm; rw [h _ (m2 hm)]
    · rfl
  have e3 : ren3 R b = b := by
    unfold ren3; split
    · rename_i hm; rw [h _ (m3 hm)]
    · rfl
  unfold renN; rw [e1, e2, e3]
theorem ref13_take {g : Func} {N : Nat} (hN : 0 < N) (hle : N ≤ g.blocks.length) (hR : ∀ q, q < g.blocks.length → (Fl.Zbc g).getD q false = decide (q < N)) (hlt : ∀ q, q < N → ∀ x ∈ Fl.nxt (g.blocks.getD q default), 0 ≤ x ∧ x < N) :
    Zbj g = { g with blocks := g.blocks.take N } := by
  have hRl := Fl.reachB_len g
  have hgen : ∃ R, Fl.Zbc g = R := ⟨_, rfl⟩
  obtain ⟨R, hRe⟩ := hgen
  simp only [hRe] at hR hRl
  have hk : ∀ k, k ≤ g.blocks.length → Zav R k = List.range (min k N) := by
    intro k
    induction k with
    | zero => intro _; simp [Zav]
    | succ k ih =>
      intro hk
      have h1 := hR k (by omega)
      by_cases e : k < N
      · rw [decide_eq_true e] at h1
        rw [keptN_yes h1, ih (by omega), show min k N = k by omega, show min (k + 1) N = k + 1 by omega, List.range_succ]
      · rw [decide_eq_false e] at h1
        rw [Zd1 h1, ih (by omega), show min k N = N by omega, show min (k + 1) N = N by omega]
  have hnum : ∀ x, x ≤ N → numB R x = x := by
    intro x
    induction x with
    | zero => intro _; simp [numB]
    | succ x ih =>
      intro hx
      have h1 := hR x (by omega)
      rw [decide_eq_true (by omega)] at h1
      rw [numB_succ (by omega), if_pos h1, ih (by omega)]
  have hkb : Zdb g R g.blocks.length = g.blocks.take N := by
    have h1 := hk g.blocks.length (Nat.le_refl _)
    rw [show min g.blocks.length N = N by omega] at h1
    unfold Zdb
    rw [h1]
    apply Zbl default (by simp; omega)
    intro q hq
    have hq' : q < N := by simpa using hq
    rw [List.getD_eq_getElem?_getD, List.getElem?_map, List.getElem?_range hq']
    show renN R (g.blocks.getD q default) = _
    rw [renN_id (fun x hx => ?_)]
    · simp [List.getD_eq_getElem?_getD, List.getElem?_take, hq']
    · have := hlt q hq' x hx
      rw [hnum _ (by omega)]; omega
  unfold Zbj
  rw [hRe, hkb, if_pos]
  refine ⟨?_, by simp; omega⟩
  unfold allOk
  rw [List.all_eq_true]
  intro q hq
  rw [List.mem_range] at hq
  unfold okAt
  rw [hR q hq]
  by_cases e : q < N
  · rw [decide_eq_true e, Zfo hq (fun x hx => by have := hlt q e x hx; omega), nxt_len2]; simp
  · rw [decide_eq_false e]; rfl
structure AllR (f : Func) : Prop where
  pos : 0 < f.blocks.length
  lt : ∀ q, q < f.blocks.length → ∀ x ∈ Fl.nxt (f.blocks.getD q default), 0 ≤ x ∧ x < f.blocks.length
  rc : ∀ q, q < f.blocks.length → Fl.Reach f q
theorem AllR.fix {f : Func} (h : AllR f) : Zbj f = f := by
  have := ref13_take h.pos (Nat.le_refl _) (fun q hq => by rw [(Fl.Zcc f q).2 (h.rc q hq), decide_eq_true hq]) h.lt
  rw [this, List.take_length]
theorem getD_app {l : List Zbd} {b : Zbd} {q : Nat} (h : q < l.length) : (l ++ [b]).getD q default = l.getD q default := by
  simp [List.getD_eq_getElem?_getD, List.getElem?_append_left h]
theorem AllR.snoc {f : Func} (h : AllR f) (b : Zbd) : Zbj { f with blocks := f.blocks ++ [b] } = f := by
  have hlen : ({ f with blocks := f.blocks ++ [b] } : Func).blocks.length = f.blocks.length + 1 := by simp
  have hgt : ∀ q, q < f.blocks.length → ({ f with blocks := f.blocks ++ [b] } : Func).blocks.getD q default = f.blocks.getD q default := fun q hq => getD_app hq
  have hnx : ∀ q, q < f.blocks.length → Fl.next { f with blocks := f.blocks ++ [b] } q = Fl.nxt (f.blocks.getD q default) := fun q hq => by
    have := Zfo (f := { f with blocks := f.blocks ++ [b] }) (n := q) (by rw [hlen]; omega) (fun x hx => by
      rw [hgt q hq] at hx
      have := h.lt q hq x hx
      rw [hlen]; omega)
    rw [this, hgt q hq]
  have hnf : ∀ q, q < f.blocks.length → Fl.next f q = Fl.nxt (f.blocks.getD q default) := fun q hq => Zfo hq (h.lt q hq)
  have hup : ∀ q, Fl.Reach f q → Fl.Reach { f with blocks := f.blocks ++ [b] } q := fun q hq => by
    induction hq with
    | zero h0 => exact .zero (by rw [hlen]; omega)
    | @step n k h1 h2 ih =>
      refine .step ih ?_
      rw [hnx n h1.lt, ← hnf n h1.lt]; exact h2
  have hdn : ∀ q, Fl.Reach { f with blocks := f.blocks ++ [b] } q → q < f.blocks.length := fun q hq => by
    induction hq with
    | zero _ => exact h.pos
    | @step n k h1 h2 ih =>
      rw [hnx n ih] at h2
      have := h.lt n ih k h2
      omega
  have := ref13_take (g := { f with blocks := f.blocks ++ [b] }) h.pos (by rw [hlen]; omega) (fun q hq => by
    rw [Bool.eq_iff_iff, Fl.Zcc, decide_eq_true_eq]
    exact ⟨hdn q, fun hq => hup q (h.rc q hq)⟩) (fun q hq x hx => by rw [hgt q hq] at hx; exact h.lt q hq x hx)
  rw [this]
  simp
theorem keptN_num {R : List Bool} : ∀ {k : Nat}, k ≤ R.length → ∀ n, n < k → R.getD n false = true → numB R n < (Zav R k).length ∧ (Zav R k).getD (numB R n) 0 = n := by
  intro k
  induction k with
  | zero => intro _ n h; omega
  | succ k ih =>
    intro hk n hn hr
    have hlen : (Zav R k).length = numB R k := by
      clear ih hr hn
      induction k with
      | zero => simp [Zav, numB]
      | succ k ih2 =>
        have h1 := ih2 (by omega)
        have h2 := numB_succ (s := R) (i := k) (by omega)
        cases e : R.getD k false with
        | true => rw [Zd0 e, h1, h2, e]; simp
        | false => rw [Zd1 e, h1, h2, e]; simp
    by_cases e : n = k
    · subst e
      rw [Zd0 hr, ← hlen]
      exact ⟨Nat.lt_succ_self _, kept_hi hr⟩
    · obtain ⟨h1, h2⟩ := ih (by omega) n (by omega) hr
      cases e2 : R.getD k false with
      | true => rw [Zd0 e2, kept_lo e2 h1]; exact ⟨by omega, h2⟩
      | false => rw [Zd1 e2]; exact ⟨h1, h2⟩
theorem nxt_ren {R : List Bool} {b : Zbd} : Fl.nxt (renN R b) = (Fl.nxt b).map fun x => (numB R x.toNat : Int) := by
  unfold Fl.nxt Fl.Zc6 renN ren3 ren2 ren1 Zd5
  by_cases h2 : b.fin.kind = 2
  · simp [h2]
  · by_cases h3 : b.fin.kind = 3
    · simp [h3]
    · by_cases h4 : b.fin.kind = 4
      · simp [h4]
      · simp [h2, h3, h4]
theorem clear_all {f : Func} (h0 : 0 < f.blocks.length) (hlt : ∀ q, q < f.blocks.length → ∀ x ∈ Fl.nxt (f.blocks.getD q default), 0 ≤ x ∧ x < f.blocks.length) : AllR (Zbj f) := by
  have hnx : ∀ q, q < f.blocks.length → Fl.next f q = Fl.nxt (f.blocks.getD q default) := fun q hq => Zfo hq (hlt q hq)
  have hok : allOk f (Fl.Zbc f) = true := by
    unfold allOk
    rw [List.all_eq_true]
    intro q hq
    rw [List.mem_range] at hq
    unfold okAt
    rw [hnx q hq, nxt_len2]; simp
  have hr0 : (Fl.Zbc f).getD 0 false = true := (Fl.Zcc f 0).2 (.zero h0)
  have hRl := Fl.reachB_len f
  have hkp : 0 < (Zdb f (Fl.Zbc f) f.blocks.length).length := by
    rw [keptB_len]
    have := (keptN_num (R := Fl.Zbc f) (k := f.blocks.length) (by omega) 0 h0 hr0).1
    omega
  have he : Zbj f = { f with blocks := Zdb f (Fl.Zbc f) f.blocks.length } := by
    unfold Zbj; rw [if_pos ⟨hok, hkp⟩]
  rw [he]
  have hcl : ∀ n, n < f.blocks.length → (Fl.Zbc f).getD n false = true → ∀ x ∈ Fl.nxt (f.blocks.getD n default), (Fl.Zbc f).getD x.toNat false = true := fun n hn hr x hx =>
    (Fl.Zcc f _).2 (.step ((Fl.Zcc f n).1 hr) (by rw [hnx n hn]; exact hx))
  have hlen : ({ f with blocks := Zdb f (Fl.Zbc f) f.blocks.length } : Func).blocks.length = (Zav (Fl.Zbc f) f.blocks.length).length := keptB_len f _ _
  have hat : ∀ q, q < (Zav (Fl.Zbc f) f.blocks.length).length → Fl.nxt (({ f with blocks := Zdb f (Fl.Zbc f) f.blocks.length } : Func).blocks.getD q default) = (Fl.nxt (f.blocks.getD ((Zav (Fl.Zbc f) f.blocks.length).getD q 0) default)).map fun x => (numB (Fl.Zbc f) x.toNat : Int) := fun q hq => by
    show Fl.nxt ((Zdb f (Fl.Zbc f) f.blocks.length).getD q default) = _
    rw [keptB_at hq, nxt_ren]
  have hks : ∀ q, q < (Zav (Fl.Zbc f) f.blocks.length).length → (Fl.Zbc f).getD ((Zav (Fl.Zbc f) f.blocks.length).getD q 0) false = true := fun q hq => by
    have := (Zet 0).2 ⟨q, hq, rfl⟩
    unfold Zav at this ⊢
    exact (List.mem_filter.1 this).2
  have hlt2 : ∀ q, q < ({ f with blocks := Zdb f (Fl.Zbc f) f.blocks.length } : Func).blocks.length → ∀ x ∈ Fl.nxt (({ f with blocks := Zdb f (Fl.Zbc f) f.blocks.length } : Func).blocks.getD q default), 0 ≤ x ∧ x < ({ f with blocks := Zdb f (Fl.Zbc f) f.blocks.length } : Func).blocks.length := fun q hq x hx => by
    rw [hlen] at hq ⊢
    rw [hat q hq] at hx
    obtain ⟨y, hy, rfl⟩ := List.mem_map.1 hx
    have hn := Zcr hq
    have h1 := hlt _ hn y hy
    have := (keptN_num (R := Fl.Zbc f) (k := f.blocks.length) (by omega) y.toNat (by omega) (hcl _ hn (hks q hq) y hy)).1
    omega
  refine ⟨by rw [hlen]; have := keptB_len f (Fl.Zbc f) f.blocks.length; omega, hlt2, fun q hq => ?_⟩
  have key : ∀ n, Fl.Reach f n → Fl.Reach { f with blocks := Zdb f (Fl.Zbc f) f.blocks.length } (numB (Fl.Zbc f) n) := fun n hn => by
    induction hn with
    | zero _ =>
      have : numB (Fl.Zbc f) 0 = 0 := by simp [numB]
      rw [this]
      exact .zero (by rw [hlen]; have := keptB_len f (Fl.Zbc f) f.blocks.length; omega)
    | @step n k h1 h2 ih =>
      have hn := h1.lt
      obtain ⟨g1, g2⟩ := keptN_num (R := Fl.Zbc f) (k := f.blocks.length) (by omega) n hn ((Fl.Zcc f n).2 h1)
      rw [hnx n hn] at h2
      have h3 : ((numB (Fl.Zbc f) k.toNat : Nat) : Int) ∈ Fl.next { f with blocks := Zdb f (Fl.Zbc f) f.blocks.length } (numB (Fl.Zbc f) n : Nat) := by
        rw [Zfo (by rw [hlen]; exact g1) (hlt2 _ (by rw [hlen]; exact g1)), hat _ g1, g2]
        exact List.mem_map.2 ⟨k, h2, rfl⟩
      have := Fl.Reach.step ih h3
      rw [Int.toNat_natCast] at this
      exact this
  rw [hlen] at hq
  have hs := hks q hq
  have h1 := key _ ((Fl.Zcc f _).1 hs)
  obtain ⟨g1, g2⟩ := keptN_num (R := Fl.Zbc f) (k := f.blocks.length) (by omega) _ (Zcr hq) hs
  have := keptN_inj g1 hq g2
  rw [this] at h1
  exact h1
theorem AllR.ren {f : Func} (h : AllR f) (S : List Bool) : AllR (renF S f) := by
  have hlen : (renF S f).blocks.length = f.blocks.length := by simp [renF]
  have hat : ∀ q, q < f.blocks.length → Fl.nxt ((renF S f).blocks.getD q default) = Fl.nxt (f.blocks.getD q default) := fun q hq => by
    have : (renF S f).blocks.getD q default = renC S (f.blocks.getD q default) := by
      unfold renF
      rw [List.getD_eq_getElem?_getD, List.getElem?_map, List.getElem?_eq_getElem hq, Zbm default hq]; rfl
    rw [this]
    generalize f.blocks.getD q default = b
    unfold renC renE Fl.nxt Fl.Zc6
    by_cases h4 : b.fin.kind = 4 <;> simp [h4]
  have hlt2 : ∀ q, q < (renF S f).blocks.length → ∀ x ∈ Fl.nxt ((renF S f).blocks.getD q default), 0 ≤ x ∧ x < (renF S f).blocks.length := fun q hq x hx => by
    rw [hlen] at hq ⊢
    rw [hat q hq] at hx; exact h.lt q hq x hx
  refine ⟨by rw [hlen]; exact h.pos, hlt2, fun q hq => ?_⟩
  rw [hlen] at hq
  have := h.rc q hq
  clear hq
  induction this with
  | zero h0 => exact .zero (by rw [hlen]; exact h0)
  | @step n k h1 h2 ih =>
    refine .step ih ?_
    rw [Zfo (by rw [hlen]; exact h1.lt) (hlt2 n (by rw [hlen]; exact h1.lt)), hat n h1.lt]
    rw [Zfo h1.lt (h.lt n h1.lt)] at h2
    exact h2
theorem right_nxt {m : Zay} (hr : Zdf m = true) {i : Nat} (hi : i < m.funcs.length) : 0 < (m.funcs.getD i default).blocks.length ∧ ∀ q, q < (m.funcs.getD i default).blocks.length → ∀ x ∈ Fl.nxt ((m.funcs.getD i default).blocks.getD q default), 0 ≤ x ∧ x < (m.funcs.getD i default).blocks.length := by
  have hF := Zfk hr hi
  have hF2 := hF
  unfold funcB at hF2
  rw [Bool.and_eq_true, decide_eq_true_eq] at hF2
  refine ⟨hF2.1.2.2.2.2.1, fun q hq x hx => ?_⟩
  have hB := func_blocks hF hq
  unfold blkB at hB
  rw [Bool.and_eq_true, decide_eq_true_eq] at hB
  have hE := hB.1.2.2
  have hgo : ∀ y, goalB (m.funcs.getD i default) y = true → 0 ≤ y ∧ y < (m.funcs.getD i default).blocks.length := fun y hy => by
    unfold goalB at hy
    cases h : inn y (m.funcs.getD i default).blocks.length with
    | true => exact (Zab _ _).1 h
    | false => rw [h] at hy; cases hy
  generalize (m.funcs.getD i default).blocks.getD q default = b at hE hx
  unfold Fl.nxt Fl.Zc6 at hx
  rcases hE with ⟨h1, _⟩ | ⟨h2, _, _, _, _, _, hto, _⟩ | ⟨h3, _, _, _, _, _, hto, hels⟩ | ⟨h4, _, _, _, hto, _, hpad, _⟩ | ⟨h6, _⟩
  · rcases h1 with h | h <;> simp [h] at hx
  · simp [h2] at hx; subst hx; exact hgo _ hto
  · simp [h3] at hx
    rcases hx with rfl | rfl
    · exact hgo _ hto
    · exact hgo _ hels
  · simp [h4] at hx
    rcases hx with rfl | rfl
    · exact hgo _ hto
    · exact (Zab _ _).1 hpad
  · simp [h6] at hx
theorem dead_all {m : Zay} (hr : Zdf m = true) {i : Nat} (hi : i < (deadM m).funcs.length) : AllR ((deadM m).funcs.getD i default) := by
  have he : (deadM m).funcs = (Zav (Zc4 m) m.funcs.length).map fun n => renF (Zc4 m) ((clrM m).funcs.getD n default) := by
    unfold deadM; rw [if_pos hr]; rfl
  rw [he, List.length_map] at hi
  have hn := Zcr hi
  have h1 := right_nxt hr hn
  rw [he, List.getD_eq_getElem?_getD, List.getElem?_map, List.getElem?_eq_getElem hi]
  show AllR (renF (Zc4 m) ((clrM m).funcs.getD (Zav (Zc4 m) m.funcs.length)[i] default))
  rw [← Zbm 0 hi, clrM_at hn]
  exact (clear_all h1.1 h1.2).ren _
theorem dead_len {m : Zay} : (deadM m).funcs.length ≤ m.funcs.length := by
  unfold deadM; split
  · show ((Zav (Zc4 m) m.funcs.length).map fun n => renF (Zc4 m) ((clrM m).funcs.getD n default)).length ≤ _
    rw [List.length_map]; exact keptN_le _ _
  · exact Nat.le_refl _
end Go.Proofs.Ytmanpbgaihdalaa
namespace Go.Proofs.Ytmanpbgaihdalaa
open Go Dv
set_option maxRecDepth 10000
set_option linter.unusedSimpArgs false
theorem dead_blk {m : Zay} (hr : Zdf m = true) {i : Nat} (hi : i < (deadM m).funcs.length) : ((deadM m).funcs.getD i default).blocks.length ≤ 64 := by
  have he : (deadM m).funcs = (Zav (Zc4 m) m.funcs.length).map fun n => renF (Zc4 m) ((clrM m).funcs.getD n default) := by
    unfold deadM; rw [if_pos hr]; rfl
  rw [he, List.length_map] at hi
  have hn := Zcr hi
  have h1 := ((Zer hr).2.2 _ hn).1
  rw [he, List.getD_eq_getElem?_getD, List.getElem?_map, List.getElem?_eq_getElem hi]
  show (renF (Zc4 m) ((clrM m).funcs.getD (Zav (Zc4 m) m.funcs.length)[i] default)).blocks.length ≤ _
  rw [← Zbm 0 hi, clrM_at hn]
  have := r13_le (m.funcs.getD ((Zav (Zc4 m) m.funcs.length).getD i 0) default)
  simp only [renF, List.length_map]
  omega
theorem snoc_blk {l : List Zbd} {b : Zbd} {F G : Nat → List AV} {x : Nat} (hx : x < 0 + l.length + 1) (hF : ∀ q, F q = Za3 (l.getD q default)) (hG : G 0 = Za3 b) : appR (0 + l.length) F G (0 + x) = Za3 ((l ++ [b]).getD x default) := by
  rw [Nat.zero_add, Nat.zero_add]
  by_cases e : x < l.length
  · have : appR l.length F G x = F x := by unfold appR; rw [show Nat.blt x l.length = true from by rw [Nat.blt_eq]; exact e]; rfl
    rw [this, hF]; simp [List.getD_eq_getElem?_getD, List.getElem?_append_left e]
  · have e2 : x = l.length := by omega
    subst e2
    have : appR l.length F G l.length = G 0 := by unfold appR; rw [show Nat.blt l.length l.length = false from by rw [Bool.eq_false_iff]; intro h; rw [Nat.blt_eq] at h; omega, Nat.sub_self]; rfl
    rw [this, hG]; simp [List.getD_eq_getElem?_getD]
set_option maxHeartbeats 4000000 in
theorem c_DeadAll (m : Zay) (b : Zbd) : FC Try.prog 13 [.agg (Zba m), .agg (Za3 b)] (.bool true) := by
  refine Za5 tok Try.func13 rfl (by decide +kernel) (Nat.le_of_ble_eq_true rfl) ?_
  refine Zau 0 (fun hl => ?_)
  have hmx : maxL = 4294967296 := rfl
  have hml : m.funcs.length ≤ maxL := hl.1.1
  clear hl
  (repeat' first | refine Zad ?_ | (refine Zac tok (by rfl) ?_; conv => whnf))
  refine .inl ⟨_, _, _, uG (QC.fc c_awake13 rfl), ?_⟩
  conv => whnf
  (repeat' first | refine Zad ?_ | (refine Zac tok (by rfl) ?_; conv => whnf) | (refine Zai ?_; conv => whnf) | (refine Zak ?_; conv => whnf) | refine Zah rfl (fun hb => ?_) (fun hb => ?_))
  · cases hb
  clear hb
  refine .inl ⟨_, _, _, uG (QC.fc (c_Short m) rfl), ?_⟩
  conv => whnf
  skip
  refine .inl ⟨_, _, _, uG (QC.fc (c_lRight c_lpad m) rfl), ?_⟩
  conv => whnf
  (repeat' first | refine Zad ?_ | (refine Zac tok (by rfl) ?_; conv => whnf) | (refine Zai ?_; conv => whnf) | (refine Zak ?_; conv => whnf) | refine Zah rfl (fun hb => ?_) (fun hb => ?_))
  · exact ⟨_, rfl, Rel.bool rfl⟩
  have hr : Zdf m = true := by
    cases h : Zdf m with
    | true => rfl
    | false => rw [h] at hb; simp at hb
  clear hb
  have hdl := dead_len (m := m)
  have hda := fun i hi => dead_all (m := m) hr (i := i) hi
  have hdb := fun i hi => dead_blk (m := m) hr (i := i) hi
  have hgen : ∃ d, deadM m = d := ⟨_, rfl⟩
  obtain ⟨d, hd⟩ := hgen
  have hcm : FC Try.prog 58 [.agg (Zba m)] (.tup [.agg (Zba d), iv 0]) := by
    have := c_dModule m
    rw [hd, show errM m = 0 from by simp [errM, hr]] at this; exact this
  rw [hd] at hdl
  simp only [hd] at hda hdb
  refine .inl ⟨_, _, _, uG (QC.fc hcm rfl), ?_⟩
  conv => whnf
  (repeat' first | refine Zad ?_ | (refine Zac tok (by rfl) ?_; conv => whnf) | refine Zaf ?_)
  refine Zas (fun i : Nat => mkS [(2, .bp (2, 0, 0) 0), (3, .bp (3, 0, 0) 0), (5, .bp (5, 0, 0) 0), (6, iv 0), (7, iv i)] [((2, 0, 0), Zaw (Zba m)), ((3, 0, 0), Zaw (Za3 b)), ((5, 0, 0), Zaw (Zba d))]) (fun i => i ≤ d.funcs.length) (fun i => d.funcs.length - i) 0 (Nat.zero_le _) ?_ ?_
  · refine Weak.list [((2, 0, 0), .old (2, 0, 0), Zaw (Zba m)), ((3, 0, 0), .old (3, 0, 0), Zaw (Za3 b)), ((5, 0, 0), .old (5, 0, 0), Zaw (Zba d))] rfl (by rfl) ?_ (.old rfl (BLe.refl _) (.old rfl (BLe.refl _) (.old rfl (BLe.rowW (Nat.le_refl _) (ltS (Wks.of rfl) lt0)) .nil)))
    ((repeat' first | exact TLes.nil | refine TLes.cons (TLe.eq rfl) ?_); skip)
  intro i hi
  (repeat' ((fail_if_success (show AWp _ _ _ (Code.region 9 _ _) _ _)); (fail_if_success (show AWp _ _ _ (Code.region 14 _ _) _ _)); first | refine Zad ?_ | (refine Zac tok (by rfl) ?_; conv => whnf) | refine Zaf ?_ | (refine Zai ?_; conv => whnf) | (refine Zar ?_; conv => whnf) | refine Zah rfl (fun hb => ?_) (fun hb => ?_)))
  · have hlt : i < d.funcs.length := by simp only [decide_eq_true_eq] at hb; omega
    clear hb
    have hzi : 0 + (i : Int).toNat = i := by simp
    have hgen : ∃ f, d.funcs.getD i default = f := ⟨_, rfl⟩
    obtain ⟨f, hf⟩ := hgen
    have hA := hda i hlt
    have hfb := hdb i hlt
    rw [hf] at hA hfb
    ((repeat' ((fail_if_success (show AWp _ _ _ (Code.region 11 _ _) _ _)); first | refine Zad ?_ | (refine Zac tok (by rfl) ?_; conv => whnf) | (refine @And.intro (Zaa _ _ _ _) _ ?_ ?_; rotate_left; (conv => whnf); rotate_right))); all_goals (try ((guard_target = Zaa _ _ _ _); refine Zae ?_; (all_goals (try simp only [Zaa, kzz, kz11, kz12, maxL, Zab] at *)); all_goals omega)))
    refine Za6 (Weak.list (tl := [(2, .bp (2, 0, 0) 0), (3, .bp (3, 0, 0) 0), (5, .bp (5, 0, 0) 0), (6, iv 0), (7, iv i), (8, .bp (8, 0, 0) 0), (9, .bp (9, 0, 0) 0)]) [((2, 0, 0), .old (2, 0, 0), Zaw (Zba m)), ((3, 0, 0), .old (3, 0, 0), Zaw (Za3 b)), ((5, 0, 0), .old (5, 0, 0), Zaw (Zba d)), ((8, 0, 0), .old (8, 0, 0), .row true 3 1 (fun _ => Za1 f)), ((9, 0, 0), .old (9, 0, 0), .row true 3 1 (fun _ => Za1 f))] rfl (by rfl) ?_ (.old rfl (BLe.refl _) (.old rfl (BLe.refl _) (.old rfl (BLe.refl _) (.old rfl (BLe.rowW (Nat.le_refl _) (ltS (Wks.of (by rw [← hf]; rfl)) lt0)) (.old rfl (BLe.rowW (Nat.le_refl _) (ltS (Wks.of (by rw [← hf]; rfl)) lt0)) .nil)))))) ?_
    · ((repeat' first | exact TLes.nil | refine TLes.cons (TLe.eq rfl) ?_); skip)
    refine AWp_soft tok mix (by rfl) [1, 2, 4, 7] 20 (by rfl) (by rfl) (by rfl) ?_
    conv => whnf
    repeat' first
      | (refine @And.intro (Zaa _ _ _ _) _ ?_ ?_; rotate_left; (conv => whnf); rotate_right)
      | (guard_target = And _ _; refine @And.intro (gOp _ _ _ _ _ _ _ _ _) _ (by (conv => whnf); exact ⟨rfl, rfl⟩) ?_; conv => whnf)
      | (guard_target = And _ _; refine And.intro ?_ ?_ <;> (conv => whnf))
    all_goals (try ((guard_target = Zaa _ _ _ _); refine Zae ?_; (first | refine And.intro (Zeh rfl ?_) ?_ | refine And.intro Ze0 ?_ | skip); (all_goals (try simp only [Zaa, kzz, kz11, kz12, maxL, Zab] at *)); all_goals omega))
    all_goals
      refine Za6 (Weak.fam (L := []) (tl := [(2, .bp (2, 0, 0) 0), (3, .bp (3, 0, 0) 0), (5, .bp (5, 0, 0) 0), (6, iv 0), (7, iv i), (8, .bp (8, 0, 0) 0), (9, .bp (9, 0, 0) 0)]) (hl := [((2, 0, 0), Zaw (Zba m)), ((3, 0, 0), Zaw (Za3 b)), ((5, 0, 0), Zaw (Zba d)), ((8, 0, 0), .row true 3 1 (fun _ => Za1 f)), ((9, 0, 0), .row true 3 1 (fun _ => Za1 { f with blocks := f.blocks ++ [b] }))]) (F := noH) [] rfl (fun c hc => by cases hc) ?_ ?_ noF (fun i hi => by cases hi)) ?_
      · exact .cons (.bp rfl rfl) (.cons (.bp rfl rfl) (.cons (.bp rfl rfl) (.cons (.imm rfl) (.cons (.imm rfl) (.cons (.bp rfl rfl) (.cons (.bp rfl rfl) .nil))))))
      · refine .old rfl rfl (GB.one (GVs.imm rfl) (fun _ => rfl)) (.old rfl rfl (GB.one (GVs.imm rfl) (fun _ => rfl)) (.old rfl rfl (GB.one (GVs.imm rfl) (fun _ => rfl)) (.old rfl rfl (GB.one (GVs.imm rfl) (fun _ => rfl)) (.old rfl rfl (GB.one (.cons (.imm rfl) (.cons (.imm rfl) (.cons (.frz (hd_no rfl) rfl (Nat.le_of_eq (Nat.zero_add _)) ?_ (fun x hx => GVs.eqI rfl ?_) (fun _ _ => rfl)) .nil))) (fun _ => rfl)) .nil))))
        · show 0 + f.blocks.length + 1 = (f.blocks ++ [b]).length
          simp
        · change (bif true then appR (0 + f.blocks.length) _ _ else _) (0 + x) = Za3 ((f.blocks ++ [b]).getD x default)
          rw [cond_true]
          exact snoc_blk hx (fun q => rfl) rfl
      (repeat' first | refine Zad ?_ | (refine Zbb tok mix (by rfl) ?_; conv => whnf))
      refine .inl ⟨_, _, _, uG (QC.fc (c_dFuncF f) rfl), ?_⟩
      conv => whnf
      skip
      refine .inl ⟨_, _, _, uG (QC.fc (c_rSameFunc (Zbj f) f) rfl), ?_⟩
      conv => whnf
      skip
      refine .inl ⟨_, _, _, uG (QC.fc (c_dFuncF { f with blocks := f.blocks ++ [b] }) rfl), ?_⟩
      conv => whnf
      skip
      refine .inl ⟨_, _, _, uG (QC.fc (c_rSameFunc (Zbj { f with blocks := f.blocks ++ [b] }) f) rfl), ?_⟩
      conv => whnf
      (repeat' first | refine Zad ?_ | (refine Zac tok (by rfl) ?_; conv => whnf) | (refine Zai ?_; conv => whnf) | (refine Zak ?_; conv => whnf) | refine Zah rfl (fun hb => ?_) (fun hb => ?_))
      · exfalso; rw [hA.fix, hA.snoc b] at hb; simp at hb
      refine ⟨i + 1, hlt, by omega, ?_⟩
      refine Weak.list [((2, 0, 0), .old (2, 0, 0), Zaw (Zba m)), ((3, 0, 0), .old (3, 0, 0), Zaw (Za3 b)), ((5, 0, 0), .old (5, 0, 0), Zaw (Zba d))] rfl (by rfl) ?_ (.old rfl (BLe.refl _) (.old rfl (BLe.refl _) (.old rfl (BLe.refl _) .nil)))
      ((repeat' first | exact TLes.nil | refine TLes.cons (TLe.eq rfl) ?_ | refine TLes.cons (TLe.int ?_) ?_); (all_goals first | ((try (simp only [Zaa, kzz, kz11, kz12, maxL, Zab] at *)); exact Zaj (by omega) (by omega)) | skip))
  · have hil : i = d.funcs.length := by simp only [decide_eq_false_iff_not] at hb; omega
    clear hb
    subst hil
    (repeat' first | (refine Zac tok (by rfl) ?_; conv => whnf) | (refine Zak ?_; conv => whnf))
    refine ⟨_, rfl, Rel.bool ?_⟩
    simpa using hdl
end Go.Proofs.Ytmanpbgaihdalaa
namespace Go.Proofs.Ytmanpbgaihdalaa
open Go Dv Go.ChangeShapes Go.WideShapes Go.ChangeAt Go.RowKit
open Go.Proofs.Ytmanpbgaihdalaa
set_option maxRecDepth 100000
set_option linter.unusedVariables false
namespace deadAll
theorem own : ownKnob Try.prog.godebug = none := by kernel_rfl
theorem contract (H : Type) (enc : TypeId × Value → H) (W : World) (base : Nat) (args : Array Value) (ds gs : List (DataW H)) (before : List MemPlace) (hk : Rows.uptoSmall H (ds ++ gs) = true)
    (hval : ∀ (j : Nat) t v, Try.f13.params[j]? = some t → args[j]? = some v → Value.okWide Try.prog W .any base t v)
    (hW : DataW.Whole enc Try.prog Try.f13.params.toList Rows.deadAllSpec.vars false W args.toList ds gs before) :
    Calls Try.prog 13 args W fun e W' => ∃ v, e = .returned v ∧ Rows.deadAllSpec.post enc Try.prog Try.f13 false true false false W args v W' := by
  have hsm := small_of hk
  have hW' := hW
  obtain ⟨p, q, hA0, hV, rfl, hfz, hnd⟩ := hW
  have hA : DataW.TrodAll enc Try.prog W 0 (fun _ => true) true Try.f13.params.toList args.toList ds p := hA0
  rw [Try.params13] at hA hval
  obtain ⟨v0, vs0, d0, ds0, p0, q0, hargs, rfl, rfl, h0, r0⟩ := trodAll_cons hA
  obtain ⟨v1, vs1, d1, ds1, p1, q1, rfl, rfl, rfl, h1, r1⟩ := trodAll_cons r0
  obtain ⟨rfl, rfl, rfl⟩ := trodAll_nil r1
  obtain rfl : args = #[v0, v1] := by cases args; simp_all
  obtain ⟨x0, hx0⟩ := arg_struct Try.underlying24 (hval 0 _ v0 rfl rfl) h0 rd_Module (hsm d0 (by simp))
  obtain ⟨x1, hx1⟩ := arg_struct Try.underlying42 (hval 1 _ v1 rfl rfl) h1 rd_Block (hsm d1 (by simp))
  obtain ⟨rfl, rfl⟩ := trodVars_none hV
  refine law_contract (tb := 4) (by decide +kernel) (by rw [Try.params13]; decide +kernel) rfl (by kernel_rfl) Try.underlying4 hW' ⟨rfl, rfl, rfl⟩ (FC.calls (c_DeadAll x0 x1) ?_)
  simp only [Vs]
  exact ⟨_, _, rfl, hx0, _, _, rfl, hx1, rfl⟩
theorem lifted (os : Os) (started : os.Started) (H : Type) (enc : TypeId × Value → H) (F : Stop.Interp) :
    ReturnsInHanded {} Try.checked os 13 .any ((Rows.OpenSpec.upto Rows.deadAllSpec).pre6 enc Try.prog Try.f13 Rows.deadAllUptoRow.domain false) (((Rows.OpenSpec.upto Rows.deadAllSpec).at F).post enc Try.prog Try.f13 false true false false) := by
  refine returnsInHanded_of_cond (C := Try.checked) (s := Rows.OpenSpec.upto Rows.deadAllSpec) (k := Rows.uptoSmall) rfl own started (by kernel_rfl) Try.func13
    (OpenSpec.witness (enc := enc) (C := Try.checked) (s := Rows.OpenSpec.upto Rows.deadAllSpec) (k := Rows.uptoSmall) rfl false ⟨#[], #[.agg #[.slice none 0 0], .agg #[.bool false, .int .i64 0, .slice none 0 0, .bool false, .bool false, .slice none 0 0, .int .i64 0, .int .i64 0, .int .i64 0, .int .i64 0, .slice none 0 0, .int .i64 0, .int .i64 0, .int .i64 0]], []⟩ 64 (by kernel_rfl) (by kernel_rfl) (by kernel_rfl)
      (x := ([.agg [.nil], .agg [.lit (.bool false), .agg [.lit (.int .i64 0), .nil, .lit (.bool false), .lit (.bool false)], .nil, .agg [.lit (.int .i64 0), .lit (.int .i64 0), .lit (.int .i64 0), .lit (.int .i64 0), .nil, .lit (.int .i64 0), .lit (.int .i64 0), .lit (.int .i64 0)]]], [], [])) (by kernel_rfl) rfl (by kernel_rfl)) ?_
  intro W base args ds gs before hval hW _ hk _
  exact contract H enc W base args ds gs before hk hval hW
theorem over : Rows.deadAllUptoRow.holds Try.pinned (Rows.OpenSpec.upto Rows.deadAllSpec) :=
  OpenClaim.holds_of_cond 13 Try.f13 rfl rfl rfl rfl rfl rfl rfl ⟨rfl, rfl, rfl, rfl, rfl⟩ rfl rfl rfl rfl rfl (by kernel_rfl) Try.func13 (by kernel_rfl)
    (of_decide_eq_true (by kernel_rfl)) (by unfold Func.isWrapper; first | (rw [if_pos (by decide +kernel)]; kernel_rfl) | (rw [if_neg (by decide +kernel)]; exact ⟨rfl, rfl⟩))
    (fun os started H enc _ F => lifted os started H enc F)
end deadAll
theorem deadAll_holds : Rows.DeadAllUptoSaid := deadAll.over
end Go.Proofs.Ytmanpbgaihdalaa
