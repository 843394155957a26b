/- Whatever a module, the words told to it, and the steps: what idle.Module cleans may be, has no more instructions, and does the same in no more steps, as davitref06 runs both. -/
import Derived.Test.YtngcbpijejbibaaGreatDvc3
import Derived.Test.YtngcbpijejbibaaGreatLawIdleKeeps2
import Derived.Test.YtngcbpijejbibaaGreatRows
import Derived.WalkKit
import Derived.ProofKit
import Derived.OpenShut
import Derived.JoinedCond
set_option linter.unusedVariables false
set_option linter.unusedSimpArgs false
set_option linter.unnecessarySimpa false
namespace Go.Proofs.YtngcbpijejbibaaGreat
open Go Dv
set_option maxRecDepth 10000
set_option linter.unusedSimpArgs false
def sel (b : Bool) (x y : AV) : AV := bif b then x else y
def blkO (b : Zby) (x : AV) : List AV := [.bool b.landing, iv b.pad.dst, u16s b.pad.catch_, .bool b.pad.all, .bool b.pad.cleanup, x, iv b.fin.kind, iv b.fin.a, iv b.fin.dst, iv b.fin.f, ints b.fin.args, iv b.fin.to, iv b.fin.els, iv b.fin.pad]
def insR (l : List Ins) : Zam := .row true 7 l.length (fun j => Za2 (l.getD j default))
def blkR (i : Nat) (l : List Zby) (k : Nat) (c : Nat → AV) : Zam := .row false 14 l.length (fun q => blkO (l.getD q default) (sel (Nat.blt q k) (.rs (1001, i, q) 7 0 (l.getD q default).ins.length) (c q)))
def funR (l : List Func) (k : Nat) (c : Nat → AV) : Zam := .row false 3 l.length (fun j => [iv (l.getD j default).params, iv (l.getD j default).regs, sel (Nat.blt j k) (.rs (1000, j, 0) 14 0 (l.getD j default).blocks.length) (c j)])
def insF (l : List Func) (n k : Nat) : Zap := famC 1001 (fun i q => bif (Nat.blt i n && Nat.blt q (l.getD i default).blocks.length) || (Nat.beq i n && Nat.blt q k) then some (insR ((l.getD i default).blocks.getD q default).ins) else none)
def blkF (l : List Func) (n : Nat) : Zap := famC 1000 (fun i z => bif Nat.beq z 0 && Nat.blt i n then some (blkR i (l.getD i default).blocks (l.getD i default).blocks.length (fun _ => .any)) else none)
theorem Zbw {a i : Nat} (h : i ≤ a) {x y : AV} : sel (Nat.blt a i) x y = y := by
  have : Nat.blt a i = false := by rw [Bool.eq_false_iff]; intro h2; rw [Nat.blt_eq] at h2; omega
  rw [this]; rfl
theorem Zbn {a i : Nat} (h : a < i) {x y : AV} : sel (Nat.blt a i) x y = x := by
  have : Nat.blt a i = true := by rw [Nat.blt_eq]; exact h
  rw [this]; rfl
theorem Zfa {i : Nat} {x y : AV} : sel (Nat.beq i i) x y = x := by
  have : Nat.beq i i = true := by simp
  rw [this]; rfl
theorem sel_ne {i j : Nat} (h : i ≠ j) {x y : AV} : sel (Nat.beq i j) x y = y := by
  have : Nat.beq i j = false := by rw [Bool.eq_false_iff]; intro h2; exact h (Nat.eq_of_beq_eq_true h2)
  rw [this]; rfl
theorem beq0_and {z n i : Nat} : (Nat.beq z 0 && Nat.blt i n) = true ↔ z = 0 ∧ i < n := by
  rw [Bool.and_eq_true, Nat.blt_eq]; simp
theorem blkF_some {l : List Func} {n : Nat} {j : Dv.Id} {b : Zam} (h : blkF l n j = some b) : ∃ i, j = (1000, i, 0) ∧ i < n ∧ b = blkR i (l.getD i default).blocks (l.getD i default).blocks.length (fun _ => .any) := by
  obtain ⟨p, q, rfl, h3⟩ := famC_some h
  cases e : (Nat.beq q 0 && Nat.blt p n) with
  | false => rw [e] at h3; cases h3
  | true =>
    rw [e] at h3
    obtain ⟨rfl, h2⟩ := beq0_and.1 e
    exact ⟨p, rfl, h2, (Option.some.inj h3).symm⟩
theorem blkF_at {l : List Func} {n i : Nat} (h : i < n) : blkF l n (1000, i, 0) = some (blkR i (l.getD i default).blocks (l.getD i default).blocks.length (fun _ => .any)) := by
  show (bif (Nat.beq 0 0 && Nat.blt i n) then _ else none) = _
  rw [beq0_and.2 ⟨rfl, h⟩]; rfl
theorem insC {n k i q nb : Nat} : ((Nat.blt i n && Nat.blt q nb) || (Nat.beq i n && Nat.blt q k)) = true ↔ (i < n ∧ q < nb) ∨ (i = n ∧ q < k) := by
  rw [Bool.or_eq_true, Bool.and_eq_true, Bool.and_eq_true, Nat.blt_eq, Nat.blt_eq, Nat.blt_eq]; simp
theorem insF_some {l : List Func} {n k : Nat} {j : Dv.Id} {b : Zam} (h : insF l n k j = some b) : ∃ i q, j = (1001, i, q) ∧ ((i < n ∧ q < (l.getD i default).blocks.length) ∨ (i = n ∧ q < k)) ∧ b = insR ((l.getD i default).blocks.getD q default).ins := by
  obtain ⟨p, q, rfl, h3⟩ := famC_some h
  cases e : ((Nat.blt p n && Nat.blt q (l.getD p default).blocks.length) || (Nat.beq p n && Nat.blt q k)) with
  | false => rw [e] at h3; cases h3
  | true => rw [e] at h3; exact ⟨p, q, rfl, insC.1 e, (Option.some.inj h3).symm⟩
theorem insF_at {l : List Func} {n k i q : Nat} (h : (i < n ∧ q < (l.getD i default).blocks.length) ∨ (i = n ∧ q < k)) : insF l n k (1001, i, q) = some (insR ((l.getD i default).blocks.getD q default).ins) := by
  show (bif ((Nat.blt i n && Nat.blt q (l.getD i default).blocks.length) || (Nat.beq i n && Nat.blt q k)) then _ else none) = _
  rw [insC.2 h]; rfl
def treeF (l : List Func) (n k : Nat) : Zap := orH (blkF l n) (insF l n k)
theorem Zbk {l : List Func} {n k i : Nat} (h : i < n) : treeF l n k (1000, i, 0) = some (blkR i (l.getD i default).blocks (l.getD i default).blocks.length (fun _ => .any)) := by
  unfold treeF orH; rw [blkF_at h]
theorem Zbe {l : List Func} {n k i q : Nat} (h : (i < n ∧ q < (l.getD i default).blocks.length) ∨ (i = n ∧ q < k)) : treeF l n k (1001, i, q) = some (insR ((l.getD i default).blocks.getD q default).ins) := by
  show insF l n k (1001, i, q) = _
  exact insF_at h
theorem Zch {l : List Func} {n k : Nat} {j : Dv.Id} {b : Zam} (h : treeF l n k j = some b) : (∃ i, j = (1000, i, 0) ∧ i < n ∧ b = blkR i (l.getD i default).blocks (l.getD i default).blocks.length (fun _ => .any)) ∨
    ∃ i q, j = (1001, i, q) ∧ ((i < n ∧ q < (l.getD i default).blocks.length) ∨ (i = n ∧ q < k)) ∧ b = insR ((l.getD i default).blocks.getD q default).ins := by
  rcases orH_some h with e | ⟨_, e⟩
  · exact .inl (blkF_some e)
  · exact .inr (insF_some e)
def copyH (l : List Func) : Zap := orH (Zbg [((900, 0, 0), funR l l.length (fun _ => .any))]) (treeF l l.length 0)
section
variable {src : Dv.Id → Option Dv.Id} {h h' : Zap}
theorem GB_ins (l : List Ins) : GB src h h' (insR l) (insR l) := GB.rowI (Nat.le_refl _) (fun _ _ => ⟨rfl, rfl⟩)
theorem GVs_blk {b : Zby} {x y : AV} (hx : GV src h h' x y) : GVs src h h' (blkO b x) (blkO b y) :=
  .cons (.imm rfl) (.cons (.imm rfl) (.cons (.imm rfl) (.cons (.imm rfl) (.cons (.imm rfl) (.cons hx (GVs.imm rfl))))))
theorem Zes {i i' : Nat} {l : List Zby} {k k' : Nat} {c c' : Nat → AV} (hc : ∀ q, q < l.length → GV src h h' (sel (Nat.blt q k) (.rs (1001, i, q) 7 0 (l.getD q default).ins.length) (c q)) (sel (Nat.blt q k') (.rs (1001, i', q) 7 0 (l.getD q default).ins.length) (c' q))) :
    GB src h h' (blkR i l k c) (blkR i' l k' c') := GB.row (Nat.le_refl _) (fun q hq => GVs_blk (hc q hq)) (fun e => by cases e)
theorem GB_fun {l : List Func} {k k' : Nat} {c c' : Nat → AV} (hc : ∀ q, q < l.length → GV src h h' (sel (Nat.blt q k) (.rs (1000, q, 0) 14 0 (l.getD q default).blocks.length) (c q)) (sel (Nat.blt q k') (.rs (1000, q, 0) 14 0 (l.getD q default).blocks.length) (c' q))) :
    GB src h h' (funR l k c) (funR l k' c') := GB.row (Nat.le_refl _) (fun q hq => .cons (.imm rfl) (.cons (.imm rfl) (.cons (hc q hq) .nil))) (fun e => by cases e)
end
theorem keep_fun {src : Dv.Id → Option Dv.Id} {h h' : Zap} {i j n m : Nat} {x : AV} {b b2 : Zam} (h1 : j < i → h' (1000, j, 0) = some b) (hs : src (1000, j, 0) = some (1000, j, 0)) (h27 : h' (27, 8, 0) = some b2) (hs27 : src (27, 8, 0) = some (27, 8, 0)) (hx : immD x = true) :
    GV src h h' (sel (Nat.blt j i) (.rs (1000, j, 0) 14 0 n) (sel (Nat.beq j i) (.rs (27, 8, 0) 14 0 m) x)) (sel (Nat.blt j i) (.rs (1000, j, 0) 14 0 n) (sel (Nat.beq j i) (.rs (27, 8, 0) 14 0 m) x)) := by
  by_cases hji : j < i
  · exact .cc (Zbn hji) (Zbn hji) (.rs (h1 hji) hs rfl rfl)
  · by_cases e : j = i
    · subst e
      exact .cc (by rw [Zbw (Nat.le_refl _), Zfa]) (by rw [Zbw (Nat.le_refl _), Zfa]) (.rs h27 hs27 rfl rfl)
    · exact .cc (by rw [Zbw (by omega), sel_ne e]) (by rw [Zbw (by omega), sel_ne e]) (.imm hx)
theorem tree_hd0 {fs : List Func} {n k : Nat} {c : Dv.Id} (hc : treeF fs n k c = none) : ∀ j, (treeF fs n k j).isSome = true → srcL [] j ≠ some c := fun j hj e => by
  cases e; rw [hc] at hj; cases hj
theorem srcL_hit {c : Dv.Id} {o : Option Dv.Id} : srcL [(c, o)] c = o := by simp [srcL, Zbb.2 rfl]
theorem srcL_miss {c j : Dv.Id} {o : Option Dv.Id} (h : c ≠ j) : srcL [(c, o)] j = some j := by simp [srcL, Zbi.2 h]
theorem updR_self {f : Nat → List AV} {k : Nat} {c : List AV} : updR f k c k = c := by
  unfold updR
  have : Nat.beq k k = true := by simp
  rw [this]; rfl
theorem keep_blk {src : Dv.Id → Option Dv.Id} {h h' : Zap} {i k q n m : Nat} {x : AV} {b b2 : Zam} (h1 : q < k → h' (1001, i, q) = some b) (hs : src (1001, i, q) = some (1001, i, q)) (h57 : h' (57, 0, 0) = some b2) (hs57 : src (57, 0, 0) = some (57, 0, 0)) (hx : immD x = true := by rfl) :
    GV src h h' (sel (Nat.blt q k) (.rs (1001, i, q) 7 0 n) (sel (Nat.beq q k) (.rs (57, 0, 0) 7 0 m) x)) (sel (Nat.blt q k) (.rs (1001, i, q) 7 0 n) (sel (Nat.beq q k) (.rs (57, 0, 0) 7 0 m) x)) := by
  by_cases hji : q < k
  · exact .cc (Zbn hji) (Zbn hji) (.rs (h1 hji) hs rfl rfl)
  · by_cases e : q = k
    · subst e
      exact .cc (by rw [Zbw (Nat.le_refl _), Zfa]) (by rw [Zbw (Nat.le_refl _), Zfa]) (.rs h57 hs57 rfl rfl)
    · exact .cc (by rw [Zbw (by omega), sel_ne e]) (by rw [Zbw (by omega), sel_ne e]) (.imm hx)
theorem c_Copy (fs : List Func) : HF Tryz.prog 12 [.agg (Zar ⟨fs⟩)] (.agg [.rs (900, 0, 0) 3 0 fs.length]) (copyH fs) := by
  refine HF_intro tok Tryz.func12 rfl (by decide +kernel) (Nat.le_of_ble_eq_true rfl) ?_
  refine Zao 0 (fun hl => ?_)
  have hl0 : fs.length ≤ maxL := hl.1.1
  have hmx : maxL = 4294967296 := rfl
  have hl1 : ∀ i, i < fs.length → (fs.getD i default).blocks.length ≤ maxL ∧ ∀ k, k < (fs.getD i default).blocks.length → ((fs.getD i default).blocks.getD k default).ins.length ≤ maxL := fun i hi => by
    have h1 := hl.1.2 i hi
    exact ⟨h1.2.2.1.1, fun k hk => (h1.2.2.1.2 k hk).2.2.2.2.2.1.1⟩
  clear hl
  (repeat' first | refine Zad ?_ | (refine Zab tok (by rfl) ?_; conv => whnf))
  refine .inl ⟨_, _, _, uG (QC.fo (rd := []) (c_CloneFuncs fs) (Ress.imms rfl) (.inl rfl) rfl), ?_⟩
  conv => whnf
  (repeat' first | refine Zad ?_ | (refine Zab tok (by rfl) ?_; conv => whnf) | refine Zai ?_)
  refine Zat (fun i : Nat => mkF [(1, .bp (1, 0, 0) 0), (2, .bp (2, 0, 0) 0), (14, iv fs.length), (15, iv i)]
      [((1, 0, 0), .row false 1 1 (fun _ => [.rs (10, 0, 0) 3 0 fs.length])), ((2, 0, 0), Zak [.nsl]), ((10, 0, 0), funR fs i (fun j => Zcm (fs.getD j default).blocks))] (treeF fs i 0))
    (fun i => i ≤ fs.length) (fun i => fs.length - i) 0 (Nat.zero_le _) ?_ ?_
  · refine Weak.fam [] rfl (fun i hi => by cases hi) ?_ ?_ ?_ (fun i hi => by cases hi)
    · (repeat' first | exact TLg.nil | refine TLg.cons (GV.imm rfl) ?_ | refine TLg.cons (GV.bp rfl rfl) ?_)
      all_goals rfl
    · refine .old rfl rfl (GB.one (.cons (.rs rfl rfl rfl rfl) .nil) (fun e => by cases e)) (.old rfl rfl (GB.one (GVs.imm rfl) (fun _ => rfl)) (.old rfl rfl (GB.row (Nat.le_refl _) (fun j hj => .cons (.imm rfl) (.cons (.imm rfl) (.cons ?_ .nil))) (fun e => by cases e)) .nil))
      rw [Zbw (Nat.zero_le _)]; exact GV.imm rfl
    · intro j b e
      rcases Zch e with ⟨i, _, h, _⟩ | ⟨i, q, _, h, _⟩ <;> omega
  intro i hi
  ((repeat' ((fail_if_success (show AWp _ _ _ (Code.region 6 _ _) _ _)); first | refine Zad ?_ | (refine Zab tok (by rfl) ?_; conv => whnf) | refine Zai ?_ | (refine Zag ?_; conv => whnf) | (refine Zas ?_; conv => whnf) | (refine Zah ?_; conv => whnf) | refine Zaf rfl (fun hb => ?_) (fun hb => ?_) | (refine @And.intro (Zaa _ _ _ _) _ ?_ ?_; rotate_left; (conv => whnf); rotate_right))); all_goals (try ((guard_target = Zaa _ _ _ _); refine Zae ?_; (all_goals (try simp only [Zaa, kzz, kz11, kz12, maxL, Zac] at *)); all_goals omega)))
  · have hlt : i < fs.length := by simp only [decide_eq_true_eq] at hb; omega
    clear hb
    have hz : 0 + (i : Int).toNat = i := by simp
    ((repeat' ((fail_if_success (show AWp _ _ _ (Code.region 7 _ _) _ _)); first | (refine Zab tok (by rfl) ?_; conv => whnf) | (refine @And.intro (Zaa _ _ _ _) _ ?_ ?_; rotate_left; (conv => whnf); rotate_right))); all_goals (try ((guard_target = Zaa _ _ _ _); refine Zae ?_; (all_goals (try simp only [Zaa, kzz, kz11, kz12, maxL, Zac] at *)); all_goals omega)))
    refine fAV (y := Zcm (fs.getD i default).blocks) ?_ ?_
    · show sel _ _ (Zcm (fs.getD (0 + (i : Int).toNat) default).blocks) = _
      rw [hz, Zbw (Nat.le_refl _)]
    conv => whnf
    skip
    refine .inl ⟨_, _, _, uG (QC.fo (rd := []) (c_CloneBlocks (fs.getD i default).blocks) (Ress.imms rfl) (.inl rfl) rfl), ?_⟩
    conv => whnf
    ((repeat' ((fail_if_success (show AWp _ _ _ (Code.region 7 _ _) _ _)); first | refine Zad ?_ | (refine @And.intro (Zaa _ _ _ _) _ ?_ ?_; rotate_left; (conv => whnf); rotate_right))); all_goals (try ((guard_target = Zaa _ _ _ _); refine Zae ?_; (all_goals (try simp only [Zaa, kzz, kz11, kz12, maxL, Zac] at *)); all_goals omega)))
    have hbs : ∃ bs, (fs.getD i default).blocks = bs := ⟨_, rfl⟩
    obtain ⟨bs, hbs⟩ := hbs
    refine Zaq (Weak.fam (tl := [(1, .bp (1, 0, 0) 0), (2, .bp (2, 0, 0) 0), (14, iv fs.length), (15, iv i), (4, .rp (10, 0, 0) 3 i 0)]) (hl := [((1, 0, 0), .row false 1 1 (fun _ => [.rs (10, 0, 0) 3 0 fs.length])), ((2, 0, 0), Zak [.nsl]), ((10, 0, 0), funR fs i (fun j => sel (Nat.beq j i) (.rs (27, 8, 0) 14 0 bs.length) (Zcm (fs.getD j default).blocks))), ((27, 8, 0), blkR i bs 0 (fun q => inss (bs.getD q default).ins))]) (F := treeF fs i 0) [((27, 8, 0), some (27, 0, 0))] rfl (fun i hi => by simp only [tgts, List.mem_singleton] at hi; subst hi; exact .inl rfl) ?_ ?_ ?_ (fun i hi => by cases hi)) ?_
    · (repeat' first | exact TLg.nil | refine TLg.cons (GV.imm rfl) ?_ | refine TLg.cons (GV.bp rfl rfl) ?_ | refine TLg.cons (GV.rp rfl rfl ?_) ?_)
      all_goals first | rfl | exact hz
    · refine .old rfl rfl (GB.one (.cons (.rs rfl rfl rfl rfl) .nil) (fun e => by cases e)) (.old rfl rfl (GB.one (GVs.imm rfl) (fun _ => rfl)) (.old rfl rfl (GB.row (Nat.le_refl _) (fun j hj => ?_) (fun e => by cases e)) (.old rfl rfl (GB.row ?_ (fun j hj => ?_) (fun e => by cases e)) .nil)))
      · refine GVs.upd (fun e => ?_) (fun e => ?_)
        · rw [hz] at e; subst e
          refine .cons (.int (by rw [hz])) (.cons (.int (by rw [hz])) (.cons ?_ .nil))
          exact .cc (x' := .rs (27, 0, 0) 14 0 (fs.getD j default).blocks.length) rfl (show sel _ _ (sel _ _ _) = _ by rw [Zbw (Nat.le_refl _), Zfa]) (.rs rfl rfl rfl (by rw [hbs]))
        · rw [hz] at e
          refine .cons (.imm rfl) (.cons (.imm rfl) (.cons ?_ .nil))
          by_cases hji : j < i
          · exact .cc (show sel _ _ _ = _ from Zbn hji) (show sel _ _ (sel _ _ _) = _ from Zbn hji) (.rs (b := blkR j (fs.getD j default).blocks (fs.getD j default).blocks.length (fun _ => .any)) (Zbk hji) rfl rfl rfl)
          · exact .cc (show sel _ _ _ = _ from Zbw (by omega)) (show sel _ _ (sel _ _ _) = _ by rw [Zbw (by omega), sel_ne e]) (.imm rfl)
      · rw [hbs]; exact Nat.le_refl _
      · subst hbs
        exact GVs_blk (.cc rfl (show sel _ _ _ = _ from Zbw (Nat.zero_le _)) (.imm rfl))
    · intro j b e
      rcases Zch e with ⟨p, rfl, hp, rfl⟩ | ⟨p, q, rfl, hp, rfl⟩
      · exact HOk.mk rfl (b0 := blkR p (fs.getD p default).blocks (fs.getD p default).blocks.length (fun _ => .any)) (Zbk hp) (Zes (fun q hq => .cc (Zbn hq) (Zbn hq) (.rs (b := insR ((fs.getD p default).blocks.getD q default).ins) (Zbe (.inl ⟨hp, hq⟩)) rfl rfl rfl)))
      · exact HOk.mk rfl (b0 := insR ((fs.getD p default).blocks.getD q default).ins) (Zbe hp) (GB_ins _)
    ((repeat' ((fail_if_success (show AWp _ _ _ (Code.region 8 _ _) _ _)); first | (refine Zab tok (by rfl) ?_; conv => whnf) | (refine @And.intro (Zaa _ _ _ _) _ ?_ ?_; rotate_left; (conv => whnf); rotate_right))); all_goals (try ((guard_target = Zaa _ _ _ _); refine Zae ?_; (all_goals (try simp only [Zaa, kzz, kz11, kz12, maxL, Zac] at *)); all_goals omega)))
    refine fAV (y := .rs (27, 8, 0) 14 0 bs.length) (show sel (Nat.blt i i) _ (sel (Nat.beq i i) _ _) = _ by rw [Zbw (Nat.le_refl _), Zfa]) ?_
    conv => whnf
    (repeat' ((fail_if_success (show AWp _ _ _ (Code.region 8 _ _) _ _)); refine Zai ?_))
    have hbl := (hl1 i hlt).1
    have hbl2 := (hl1 i hlt).2
    rw [hbs] at hbl hbl2
    clear hl1
    refine Zat (fun k : Nat => mkF [(1, .bp (1, 0, 0) 0), (2, .bp (2, 0, 0) 0), (14, iv fs.length), (15, iv i), (4, .rp (10, 0, 0) 3 i 0), (34, iv bs.length), (35, iv k)] [((1, 0, 0), .row false 1 1 (fun _ => [.rs (10, 0, 0) 3 0 fs.length])), ((2, 0, 0), Zak [.nsl]), ((10, 0, 0), funR fs i (fun j => sel (Nat.beq j i) (.rs (27, 8, 0) 14 0 bs.length) (Zcm (fs.getD j default).blocks))), ((27, 8, 0), blkR i bs k (fun q => inss (bs.getD q default).ins))] (treeF fs i k))
      (fun k => k ≤ bs.length) (fun k => bs.length - k) 0 (Nat.zero_le _) ?_ ?_
    · refine Weak.fam [] rfl (fun i hi => by cases hi) ?_ ?_ ?_ (fun i hi => by cases hi)
      · (repeat' first | exact TLg.nil | refine TLg.cons (GV.imm rfl) ?_ | refine TLg.cons (GV.bp rfl rfl) ?_)
        all_goals rfl
      · refine .old rfl rfl (GB.one (.cons (.rs rfl rfl rfl rfl) .nil) (fun e => by cases e)) (.old rfl rfl (GB.one (GVs.imm rfl) (fun _ => rfl)) (.old rfl rfl (GB_fun (fun j hj => keep_fun (fun h => Zbk h) rfl rfl rfl rfl)) (.old rfl rfl (Zes (fun q hq => .cc (Zbw (Nat.zero_le _)) (Zbw (Nat.zero_le _)) (.imm rfl))) .nil)))
      · intro j b e
        rcases Zch e with ⟨p, rfl, hp, rfl⟩ | ⟨p, q, rfl, hp, rfl⟩
        · exact HOk.mk rfl (b0 := blkR p (fs.getD p default).blocks (fs.getD p default).blocks.length (fun _ => .any)) (Zbk hp) (Zes (fun q hq => .cc (Zbn hq) (Zbn hq) (.rs (b := insR ((fs.getD p default).blocks.getD q default).ins) (Zbe (.inl ⟨hp, hq⟩)) rfl rfl rfl)))
        · exact HOk.mk rfl (b0 := insR ((fs.getD p default).blocks.getD q default).ins) (Zbe hp) (GB_ins _)
    intro k hk
    ((repeat' ((fail_if_success (show AWp _ _ _ (Code.region 11 _ _) _ _)); first | refine Zad ?_ | (refine Zab tok (by rfl) ?_; conv => whnf) | refine Zai ?_ | (refine Zag ?_; conv => whnf) | (refine Zas ?_; conv => whnf) | refine Zaf rfl (fun hb => ?_) (fun hb => ?_) | (refine @And.intro (Zaa _ _ _ _) _ ?_ ?_; rotate_left; (conv => whnf); rotate_right))); all_goals (try ((guard_target = Zaa _ _ _ _); refine Zae ?_; (all_goals (try simp only [Zaa, kzz, kz11, kz12, maxL, Zac] at *)); all_goals omega)))
    · have hkl : k < bs.length := by simp only [decide_eq_true_eq] at hb; omega
      clear hb
      have hzk : 0 + (k : Int).toNat = k := by simp
      have hbk := hbl2 k hkl
      refine fAV (y := .rs (27, 8, 0) 14 0 bs.length) (show sel (Nat.blt i i) _ (sel (Nat.beq i i) _ _) = _ by rw [Zbw (Nat.le_refl _), Zfa]) ?_
      conv => whnf
      ((repeat' ((fail_if_success (show AWp _ _ _ (Code.region 11 _ _) _ _)); first | refine Zad ?_ | (refine @And.intro (Zaa _ _ _ _) _ ?_ ?_; rotate_left; (conv => whnf); rotate_right))); all_goals (try ((guard_target = Zaa _ _ _ _); refine Zae ?_; (all_goals (try simp only [Zaa, kzz, kz11, kz12, maxL, Zac] at *)); all_goals omega)))
      refine Zaq (Weak.fam (tl := [(1, .bp (1, 0, 0) 0), (2, .bp (2, 0, 0) 0), (14, iv fs.length), (15, iv i), (4, .rp (10, 0, 0) 3 i 0), (34, iv bs.length), (35, iv k), (6, .rp (27, 8, 0) 14 k 0)]) (hl := [((1, 0, 0), .row false 1 1 (fun _ => [.rs (10, 0, 0) 3 0 fs.length])), ((2, 0, 0), Zak [.nsl]), ((10, 0, 0), funR fs i (fun j => sel (Nat.beq j i) (.rs (27, 8, 0) 14 0 bs.length) (Zcm (fs.getD j default).blocks))), ((27, 8, 0), blkR i bs k (fun q => inss (bs.getD q default).ins))]) (F := treeF fs i k) [] rfl (fun i hi => by cases hi) ?_ ?_ ?_ (fun i hi => by cases hi)) ?_
      · (repeat' first | exact TLg.nil | refine TLg.cons (GV.imm rfl) ?_ | refine TLg.cons (GV.bp rfl rfl) ?_ | refine TLg.cons (GV.rp rfl rfl ?_) ?_)
        all_goals first | rfl | exact hzk
      · refine .old rfl rfl (GB.one (.cons (.rs rfl rfl rfl rfl) .nil) (fun e => by cases e)) (.old rfl rfl (GB.one (GVs.imm rfl) (fun _ => rfl)) (.old rfl rfl (GB_fun (fun j hj => keep_fun (fun h => Zbk h) rfl rfl rfl rfl)) (.old rfl rfl (Zes (fun q hq => ?_)) .nil)))
        by_cases hqk : q < k
        · exact .cc (Zbn hqk) (Zbn hqk) (.rs (b := insR ((fs.getD i default).blocks.getD q default).ins) (Zbe (.inr ⟨rfl, hqk⟩)) rfl rfl rfl)
        · exact .cc (Zbw (by omega)) (Zbw (by omega)) (.imm rfl)
      · intro j b e
        rcases Zch e with ⟨p, rfl, hp, rfl⟩ | ⟨p, q, rfl, hp, rfl⟩
        · exact HOk.mk rfl (b0 := blkR p (fs.getD p default).blocks (fs.getD p default).blocks.length (fun _ => .any)) (Zbk hp) (Zes (fun q hq => .cc (Zbn hq) (Zbn hq) (.rs (b := insR ((fs.getD p default).blocks.getD q default).ins) (Zbe (.inl ⟨hp, hq⟩)) rfl rfl rfl)))
        · exact HOk.mk rfl (b0 := insR ((fs.getD p default).blocks.getD q default).ins) (Zbe hp) (GB_ins _)
      conv => whnf
      refine (Za0 tok mix (by rfl) ?_)
      conv => whnf
      refine @And.intro (Zaa _ _ _ _) _ ?_ ?_
      · ((guard_target = Zaa _ _ _ _); refine Zae ?_; (all_goals (try simp only [Zaa, kzz, kz11, kz12, maxL, Zac] at *)); all_goals omega)
      conv => whnf
      refine .inl ⟨_, _, _, uG (QC.fo (rd := []) (c_CloneU16s (bs.getD k default).pad.catch_) (Ress.imms rfl) (.inl rfl) rfl), ?_⟩
      conv => whnf
      refine @And.intro (Zaa _ _ _ _) _ ?_ ?_
      · ((guard_target = Zaa _ _ _ _); refine Zae ?_; (all_goals (try simp only [Zaa, kzz, kz11, kz12, maxL, Zac] at *)); all_goals omega)
      conv => whnf
      refine fAV (y := inss (bs.getD k default).ins) (show sel (Nat.blt k k) _ _ = _ from Zbw (Nat.le_refl _)) ?_
      conv => whnf
      refine .inl ⟨_, _, _, uG (QC.fo (rd := []) (c_CloneIns (bs.getD k default).ins) (Ress.imms rfl) (.inl rfl) rfl), ?_⟩
      conv => whnf
      refine @And.intro (Zaa _ _ _ _) _ ?_ ?_
      · ((guard_target = Zaa _ _ _ _); refine Zae ?_; (all_goals (try simp only [Zaa, kzz, kz11, kz12, maxL, Zac] at *)); all_goals omega)
      conv => whnf
      refine .inl ⟨_, _, _, uG (QC.fo (rd := []) (Zgb (bs.getD k default).fin.args) (Ress.imms rfl) (.inl rfl) rfl), ?_⟩
      conv => whnf
      refine @And.intro (Zaa _ _ _ _) _ ?_ ?_
      · ((guard_target = Zaa _ _ _ _); refine Zae ?_; (all_goals (try simp only [Zaa, kzz, kz11, kz12, maxL, Zac] at *)); all_goals omega)
      conv => whnf
      refine @And.intro (Zaa _ _ _ _) _ ?_ ?_
      · ((guard_target = Zaa _ _ _ _); refine Zae ?_; (all_goals (try simp only [Zaa, kzz, kz11, kz12, maxL, Zac] at *)); all_goals omega)
      conv => whnf
      refine @And.intro (Zaa _ _ _ _) _ ?_ ?_
      · ((guard_target = Zaa _ _ _ _); refine Zae ?_; (all_goals (try simp only [Zaa, kzz, kz11, kz12, maxL, Zac] at *)); all_goals omega)
      conv => whnf
      refine Zaq (Weak.fam (tl := [(1, .bp (1, 0, 0) 0), (2, .bp (2, 0, 0) 0), (14, iv fs.length), (15, iv i), (4, .rp (10, 0, 0) 3 i 0), (34, iv bs.length), (35, iv k), (6, .rp (27, 8, 0) 14 k 0)]) (hl := [((1, 0, 0), .row false 1 1 (fun _ => [.rs (10, 0, 0) 3 0 fs.length])), ((2, 0, 0), Zak [.nsl]), ((10, 0, 0), funR fs i (fun j => sel (Nat.beq j i) (.rs (27, 8, 0) 14 0 bs.length) (Zcm (fs.getD j default).blocks))), ((27, 8, 0), blkR i bs k (fun q => sel (Nat.beq q k) (.rs (57, 0, 0) 7 0 (bs.getD k default).ins.length) (inss (bs.getD q default).ins))), ((57, 0, 0), insR (bs.getD k default).ins)]) (F := treeF fs i k) [] rfl (fun i hi => by cases hi) ?_ ?_ ?_ (fun i hi => by cases hi)) ?_
      · (repeat' first | exact TLg.nil | refine TLg.cons (GV.imm rfl) ?_ | refine TLg.cons (GV.bp rfl rfl) ?_)
      · refine .old rfl rfl (GB.one (.cons (.rs rfl rfl rfl rfl) .nil) (fun e => by cases e)) (.old rfl rfl (GB.one (GVs.imm rfl) (fun _ => rfl)) (.old rfl rfl (GB_fun (fun j hj => keep_fun (fun h => Zbk h) rfl rfl rfl rfl)) (.old rfl rfl (GB.row (Nat.le_refl _) (fun q hq => ?_) (fun e => by cases e)) (.old rfl rfl (GB_ins _) .nil))))
        by_cases hqk : q = k
        · subst hqk
          repeat rw [updR_self]
          refine .cons (.imm rfl) (.cons (.imm rfl) (.cons (.frz (hd_of rfl (tree_hd0 rfl)) rfl (Nat.le_of_eq (Nat.zero_add _)) rfl (fun x hx => GVs.eqI rfl (by rw [Nat.zero_add])) (fun _ _ => rfl)) (.cons (.imm rfl) (.cons (.imm rfl) (.cons (.cc (x' := .rs (57, 0, 0) 7 0 (bs.getD q default).ins.length) rfl (show sel (Nat.blt q q) _ (sel (Nat.beq q q) _ _) = _ by rw [Zbw (Nat.le_refl _), Zfa]) (.rs rfl rfl rfl rfl)) (.cons (.imm rfl) (.cons (.imm rfl) (.cons (.imm rfl) (.cons (.imm rfl) (.cons (.frz (hd_of rfl (tree_hd0 rfl)) rfl (Nat.le_of_eq (Nat.zero_add _)) rfl (fun x hx => GVs.eqI rfl (by rw [Nat.zero_add])) (fun _ _ => rfl)) (.cons (.imm rfl) (.cons (.imm rfl) (.cons (.imm rfl) .nil)))))))))))))
        · refine GVs.upd (fun e => absurd e hqk) (fun _ => GVs.upd (fun e => absurd e hqk) (fun _ => GVs.upd (fun e => absurd e hqk) (fun _ => GVs_blk ?_)))
          by_cases hlt2 : q < k
          · exact .cc (Zbn hlt2) (Zbn hlt2) (.rs (b := insR ((fs.getD i default).blocks.getD q default).ins) (Zbe (.inr ⟨rfl, hlt2⟩)) rfl rfl rfl)
          · exact .cc (Zbw (by omega)) (show sel _ _ (sel (Nat.beq q k) _ _) = _ by rw [Zbw (by omega), sel_ne hqk]) (.imm rfl)
      · intro j b e
        rcases Zch e with ⟨p, rfl, hp, rfl⟩ | ⟨p, q, rfl, hp, rfl⟩
        · exact HOk.mk rfl (b0 := blkR p (fs.getD p default).blocks (fs.getD p default).blocks.length (fun _ => .any)) (Zbk hp) (Zes (fun q hq => .cc (Zbn hq) (Zbn hq) (.rs (b := insR ((fs.getD p default).blocks.getD q default).ins) (Zbe (.inl ⟨hp, hq⟩)) rfl rfl rfl)))
        · exact HOk.mk rfl (b0 := insR ((fs.getD p default).blocks.getD q default).ins) (Zbe hp) (GB_ins _)
      refine Zad ?_
      refine (Zab tok (by rfl) ?_)
      conv => whnf
      refine @And.intro (Zaa _ _ _ _) _ ?_ ?_
      · ((guard_target = Zaa _ _ _ _); refine Zae ?_; (all_goals (try simp only [Zaa, kzz, kz11, kz12, maxL, Zac] at *)); all_goals omega)
      conv => whnf
      refine fAV (y := .rs (57, 0, 0) 7 0 (bs.getD k default).ins.length) (show sel (Nat.blt k k) _ (sel (Nat.beq k k) _ _) = _ by rw [Zbw (Nat.le_refl _), Zfa]) ?_
      conv => whnf
      (repeat' refine Zai ?_)
      refine Zat (fun j : Nat => mkF [(1, .bp (1, 0, 0) 0), (2, .bp (2, 0, 0) 0), (14, iv fs.length), (15, iv i), (4, .rp (10, 0, 0) 3 i 0), (34, iv bs.length), (35, iv k), (6, .rp (27, 8, 0) 14 k 0), (76, iv (bs.getD k default).ins.length), (77, iv j)] [((1, 0, 0), .row false 1 1 (fun _ => [.rs (10, 0, 0) 3 0 fs.length])), ((2, 0, 0), Zak [.nsl]), ((10, 0, 0), funR fs i (fun j => sel (Nat.beq j i) (.rs (27, 8, 0) 14 0 bs.length) (Zcm (fs.getD j default).blocks))), ((27, 8, 0), blkR i bs k (fun q => sel (Nat.beq q k) (.rs (57, 0, 0) 7 0 (bs.getD k default).ins.length) (inss (bs.getD q default).ins))), ((57, 0, 0), insR (bs.getD k default).ins)] (treeF fs i k)) (fun j => j ≤ (bs.getD k default).ins.length) (fun j => (bs.getD k default).ins.length - j) 0 (Nat.zero_le _) ?_ ?_
      · refine Weak.fam [] rfl (fun i hi => by cases hi) ?_ ?_ ?_ (fun i hi => by cases hi)
        · (repeat' first | exact TLg.nil | refine TLg.cons (GV.imm rfl) ?_ | refine TLg.cons (GV.bp rfl rfl) ?_)
        · exact .old rfl rfl (GB.one (.cons (.rs rfl rfl rfl rfl) .nil) (fun e => by cases e)) (.old rfl rfl (GB.one (GVs.imm rfl) (fun _ => rfl)) (.old rfl rfl (GB_fun (fun j hj => keep_fun (fun h => Zbk h) rfl rfl rfl rfl)) (.old rfl rfl (Zes (fun q hq => keep_blk (fun h => Zbe (.inr ⟨rfl, h⟩)) rfl rfl rfl)) (.old rfl rfl (GB_ins _) .nil))))
        · intro j b e
          rcases Zch e with ⟨p, rfl, hp, rfl⟩ | ⟨p, q, rfl, hp, rfl⟩
          · exact HOk.mk rfl (b0 := blkR p (fs.getD p default).blocks (fs.getD p default).blocks.length (fun _ => .any)) (Zbk hp) (Zes (fun q hq => .cc (Zbn hq) (Zbn hq) (.rs (b := insR ((fs.getD p default).blocks.getD q default).ins) (Zbe (.inl ⟨hp, hq⟩)) rfl rfl rfl)))
          · exact HOk.mk rfl (b0 := insR ((fs.getD p default).blocks.getD q default).ins) (Zbe hp) (GB_ins _)
      intro j hj
      (repeat' ((fail_if_success (show AWp _ _ _ (Code.region 15 _ _) _ _)); first | refine Zad ?_ | (refine Zab tok (by rfl) ?_; conv => whnf) | refine Zai ?_ | (refine Zag ?_; conv => whnf) | (refine Zas ?_; conv => whnf) | refine Zaf rfl (fun hb => ?_) (fun hb => ?_)))
      · have hjl : j < (bs.getD k default).ins.length := by simp only [decide_eq_true_eq] at hb; omega
        clear hb
        have hzj : 0 + (j : Int).toNat = j := by simp
        refine (Za0 tok mix (by rfl) ?_)
        conv => whnf
        refine @And.intro (Zaa _ _ _ _) _ ?_ ?_
        · ((guard_target = Zaa _ _ _ _); refine Zae ?_; (all_goals (try simp only [Zaa, kzz, kz11, kz12, maxL, Zac] at *)); all_goals omega)
        conv => whnf
        refine fAV (y := .rs (57, 0, 0) 7 0 (bs.getD k default).ins.length) (show sel (Nat.blt k k) _ (sel (Nat.beq k k) _ _) = _ by rw [Zbw (Nat.le_refl _), Zfa]) ?_
        conv => whnf
        refine @And.intro (Zaa _ _ _ _) _ ?_ ?_
        · ((guard_target = Zaa _ _ _ _); refine Zae ?_; (all_goals (try simp only [Zaa, kzz, kz11, kz12, maxL, Zac] at *)); all_goals omega)
        conv => whnf
        refine fAV (y := .rs (57, 0, 0) 7 0 (bs.getD k default).ins.length) (show sel (Nat.blt k k) _ (sel (Nat.beq k k) _ _) = _ by rw [Zbw (Nat.le_refl _), Zfa]) ?_
        conv => whnf
        refine @And.intro (Zaa _ _ _ _) _ ?_ ?_
        · ((guard_target = Zaa _ _ _ _); refine Zae ?_; (all_goals (try simp only [Zaa, kzz, kz11, kz12, maxL, Zac] at *)); all_goals omega)
        conv => whnf
        refine @And.intro (Zaa _ _ _ _) _ ?_ ?_
        · ((guard_target = Zaa _ _ _ _); refine Zae ?_; (all_goals (try simp only [Zaa, kzz, kz11, kz12, maxL, Zac] at *)); all_goals omega)
        conv => whnf
        refine .inl ⟨_, _, _, uG (QC.fo (rd := []) (Zgb ((bs.getD k default).ins.getD (0 + (j : Int).toNat) default).args) (Ress.imms rfl) (.inl rfl) rfl), ?_⟩
        conv => whnf
        ((repeat' first | (refine Zab tok (by rfl) ?_; conv => whnf) | (refine @And.intro (Zaa _ _ _ _) _ ?_ ?_; rotate_left; (conv => whnf); rotate_right)); all_goals (try ((guard_target = Zaa _ _ _ _); refine Zae ?_; (all_goals (try simp only [Zaa, kzz, kz11, kz12, maxL, Zac] at *)); all_goals omega)))
        refine ⟨j + 1, by omega, by omega, ?_⟩
        refine Weak.fam [] rfl (fun i hi => by cases hi) ?_ ?_ ?_ (fun i hi => by cases hi)
        · (repeat' first | exact TLg.nil | refine TLg.cons (GV.imm rfl) ?_ | refine TLg.cons (GV.bp rfl rfl) ?_ | refine TLg.cons (GV.int ?_) ?_)
          all_goals first | rfl | (simp (disch := omega) only [wrap64]; omega) | omega
        · refine .old rfl rfl (GB.one (.cons (.rs rfl rfl rfl rfl) .nil) (fun e => by cases e)) (.old rfl rfl (GB.one (GVs.imm rfl) (fun _ => rfl)) (.old rfl rfl (GB_fun (fun j hj => keep_fun (fun h => Zbk h) rfl rfl rfl rfl)) (.old rfl rfl (Zes (fun q hq => keep_blk (fun h => Zbe (.inr ⟨rfl, h⟩)) rfl rfl rfl)) (.old rfl rfl (GB.row (Nat.le_refl _) (fun q hq => GVs.upd (fun e => ?_) (fun _ => GVs.imm rfl)) (fun _ _ _ => rfl)) .nil))))
          rw [hzj] at e; subst e
          rw [hzj]
          exact .cons (.imm rfl) (.cons (.imm rfl) (.cons (.imm rfl) (.cons (.imm rfl) (.cons (.imm rfl) (.cons (.imm rfl) (.cons (.frz (hd_of rfl (tree_hd0 rfl)) rfl (Nat.le_of_eq (Nat.zero_add _)) rfl (fun x hx => GVs.eqI rfl (by rw [Nat.zero_add])) (fun _ _ => rfl)) .nil))))))
        · intro j b e
          rcases Zch e with ⟨p, rfl, hp, rfl⟩ | ⟨p, q, rfl, hp, rfl⟩
          · exact HOk.mk rfl (b0 := blkR p (fs.getD p default).blocks (fs.getD p default).blocks.length (fun _ => .any)) (Zbk hp) (Zes (fun q hq => .cc (Zbn hq) (Zbn hq) (.rs (b := insR ((fs.getD p default).blocks.getD q default).ins) (Zbe (.inl ⟨hp, hq⟩)) rfl rfl rfl)))
          · exact HOk.mk rfl (b0 := insR ((fs.getD p default).blocks.getD q default).ins) (Zbe hp) (GB_ins _)
      · have hjl : j = (bs.getD k default).ins.length := by simp only [decide_eq_false_iff_not] at hb; omega
        clear hb
        skip
        refine ⟨k + 1, hkl, by omega, ?_⟩
        refine Weak.fam [((1001, i, k), some (57, 0, 0))] rfl (fun i hi => by simp only [tgts, List.mem_singleton] at hi; subst hi; exact .inl rfl) ?_ ?_ ?_ (fun i hi => by cases hi)
        · (repeat' first | exact TLg.nil | refine TLg.cons (GV.imm rfl) ?_ | refine TLg.cons (GV.bp rfl rfl) ?_ | refine TLg.cons (GV.int ?_) ?_)
          all_goals first | rfl | (simp (disch := omega) only [wrap64]; omega) | omega
        · refine .old rfl rfl (GB.one (.cons (.rs rfl rfl rfl rfl) .nil) (fun e => by cases e)) (.old rfl rfl (GB.one (GVs.imm rfl) (fun _ => rfl)) (.old rfl rfl (GB_fun (fun j hj => keep_fun (fun h => Zbk h) rfl rfl rfl rfl)) (.old rfl rfl (Zes (fun q hq => ?_)) .nil)))
          by_cases h1 : q < k
          · exact .cc (Zbn h1) (Zbn (by omega)) (.rs (b := insR ((fs.getD i default).blocks.getD q default).ins) (Zbe (.inr ⟨rfl, by omega⟩)) (srcL_miss (fun e => by cases e; omega)) rfl rfl)
          · by_cases h2 : q = k
            · subst h2
              exact .cc (show sel _ _ (sel (Nat.beq q q) _ _) = _ by rw [Zbw (Nat.le_refl _), Zfa]) (Zbn (by omega)) (.rs (b := insR ((fs.getD i default).blocks.getD q default).ins) (Zbe (.inr ⟨rfl, by omega⟩)) srcL_hit rfl rfl)
            · exact .cc (show sel _ _ (sel (Nat.beq q k) _ _) = _ by rw [Zbw (by omega), sel_ne h2]) (Zbw (by omega)) (.imm rfl)
        · intro j b e
          rcases Zch e with ⟨p, rfl, hp, rfl⟩ | ⟨p, q, rfl, hp, rfl⟩
          · exact HOk.mk rfl (b0 := blkR p (fs.getD p default).blocks (fs.getD p default).blocks.length (fun _ => .any)) (Zbk hp) (Zes (fun q hq => .cc (Zbn hq) (Zbn hq) (.rs (b := insR ((fs.getD p default).blocks.getD q default).ins) (Zbe (.inl ⟨hp, hq⟩)) (srcL_miss (fun e => by cases e; omega)) rfl rfl)))
          · by_cases h2 : p = i ∧ q = k
            · obtain ⟨rfl, rfl⟩ := h2
              exact HOk.mk srcL_hit (b0 := insR (bs.getD q default).ins) rfl (by rw [← hbs]; exact GB_ins _)
            · exact HOk.mk (srcL_miss (fun e => h2 (by cases e; exact ⟨rfl, rfl⟩))) (b0 := insR ((fs.getD p default).blocks.getD q default).ins) (Zbe (by omega)) (GB_ins _)
    · have hkl : k = bs.length := by simp only [decide_eq_false_iff_not] at hb; omega
      clear hb
      skip
      refine ⟨i + 1, hlt, by omega, ?_⟩
      subst hkl
      refine Weak.fam [((1000, i, 0), some (27, 8, 0))] rfl (fun i hi => by simp only [tgts, List.mem_singleton] at hi; subst hi; exact .inl rfl) ?_ ?_ ?_ (fun i hi => by cases hi)
      · (repeat' first | exact TLg.nil | refine TLg.cons (GV.imm rfl) ?_ | refine TLg.cons (GV.bp rfl rfl) ?_ | refine TLg.cons (GV.int ?_) ?_)
        all_goals first | rfl | (simp (disch := omega) only [wrap64]; omega) | omega
      · refine .old rfl rfl (GB.one (.cons (.rs rfl rfl rfl rfl) .nil) (fun e => by cases e)) (.old rfl rfl (GB.one (GVs.imm rfl) (fun _ => rfl)) (.old rfl rfl (GB_fun (fun j hj => ?_)) .nil))
        by_cases h1 : j < i
        · exact .cc (Zbn h1) (Zbn (by omega)) (.rs (b := blkR j (fs.getD j default).blocks (fs.getD j default).blocks.length (fun _ => .any)) (Zbk (by omega)) (srcL_miss (fun e => by cases e; omega)) rfl rfl)
        · by_cases h2 : j = i
          · subst h2
            exact .cc (show sel _ _ (sel (Nat.beq j j) _ _) = _ by rw [Zbw (Nat.le_refl _), Zfa]) (Zbn (by omega)) (.rs (b := blkR j (fs.getD j default).blocks (fs.getD j default).blocks.length (fun _ => .any)) (Zbk (by omega)) srcL_hit rfl (by rw [hbs]))
          · exact .cc (show sel _ _ (sel (Nat.beq j i) _ _) = _ by rw [Zbw (by omega), sel_ne h2]) (Zbw (by omega)) (.imm rfl)
      · intro j b e
        rcases Zch e with ⟨p, rfl, hp, rfl⟩ | ⟨p, q, rfl, hp, rfl⟩
        · by_cases h2 : p = i
          · subst h2
            refine HOk.mk srcL_hit (b0 := blkR p bs bs.length (fun q => inss (bs.getD q default).ins)) rfl ?_
            rw [hbs]
            exact Zes (fun q hq => .cc (Zbn hq) (Zbn hq) (.rs (b := insR ((fs.getD p default).blocks.getD q default).ins) (Zbe (.inl ⟨hp, by rw [hbs]; exact hq⟩)) rfl rfl rfl))
          · exact HOk.mk (srcL_miss (fun e => h2 (by cases e; rfl))) (b0 := blkR p (fs.getD p default).blocks (fs.getD p default).blocks.length (fun _ => .any)) (Zbk (by omega)) (Zes (fun q hq => .cc (Zbn hq) (Zbn hq) (.rs (b := insR ((fs.getD p default).blocks.getD q default).ins) (Zbe (.inl ⟨hp, hq⟩)) rfl rfl rfl)))
        · refine HOk.mk rfl (b0 := insR ((fs.getD p default).blocks.getD q default).ins) (Zbe ?_) (GB_ins _)
          by_cases h2 : p = i
          · subst h2; rw [hbs] at hp; omega
          · omega
  · have hil : i = fs.length := by simp only [decide_eq_false_iff_not] at hb; omega
    clear hb
    subst hil
    refine ⟨_, srcL [((900, 0, 0), some (10, 0, 0))], rfl, srcL_inj rfl (fun i hi => by simp only [tgts, List.mem_singleton] at hi; subst hi; exact .inl rfl), ?_, ?_⟩
    · intro j b e
      rcases orH_some e with e | ⟨_, e⟩
      · simp only [Zbg] at e
        cases e2 : idEq (900, 0, 0) j with
        | false => rw [e2] at e; cases e
        | true =>
          have := Zbb.1 e2; subst this
          rw [e2] at e; cases e
          exact HOk.mk rfl (b0 := funR fs fs.length (fun j => Zcm (fs.getD j default).blocks)) rfl (GB_fun (fun j hj => .cc (Zbn hj) (Zbn hj) (.rs (b := blkR j (fs.getD j default).blocks (fs.getD j default).blocks.length (fun _ => .any)) (Zbk hj) rfl rfl rfl)))
      · rcases Zch e with ⟨p, rfl, hp, rfl⟩ | ⟨p, q, rfl, hp, rfl⟩
        · exact HOk.mk rfl (b0 := blkR p (fs.getD p default).blocks (fs.getD p default).blocks.length (fun _ => .any)) (Zbk hp) (Zes (fun q hq => .cc (Zbn hq) (Zbn hq) (.rs (b := insR ((fs.getD p default).blocks.getD q default).ins) (Zbe (.inl ⟨hp, hq⟩)) rfl rfl rfl)))
        · exact HOk.mk rfl (b0 := insR ((fs.getD p default).blocks.getD q default).ins) (Zbe hp) (GB_ins _)
    · exact .agg (.cons (.rs rfl rfl rfl rfl) .nil)
end Go.Proofs.YtngcbpijejbibaaGreat
namespace Go.Proofs.YtngcbpijejbibaaGreat
open Go Dv
set_option maxRecDepth 10000
set_option linter.unusedSimpArgs false
abbrev rowX (β : Nat → AV) (n : Nat) : Zam := .row true 1 n (fun q => [β q])
theorem c_mergeX (f : Func) (A : List (List Bool)) (β : Nat → AV) (na nb n : Nat) (g : Nat → Bool) (blk : Nat) (but : Int) (hb : blk < na) (hn : (A.getD blk []).length ≤ n) :
    HC Tryz.prog [k0, k1, k2, k3] 80 [(k0, sBox f k1 k2 na nb), (k1, setR A na), (k2, rowX β nb), (k3, Zbd n g)] [.bp k0 0, .rs k3 1 0 n, iv blk, iv but] (.tup [])
      [(k0, sBox f k1 k2 na nb), (k1, setR A na), (k2, rowX β nb), (k3, Zbd n (mgF g (A.getD blk []) but (A.getD blk []).length))] := by
  refine Zbr tok Tryz.func80 rfl (by decide +kernel) (Nat.le_of_ble_eq_true rfl) ?_
  have hmx : maxL = 4294967296 := rfl
  ((repeat' ((fail_if_success (show AWp _ _ _ (Code.region 1 _ _) _ _)); first | refine Zad ?_ | (refine Zab tok (by rfl) ?_; conv => whnf) | refine Zai ?_ | (refine @And.intro (Zaa _ _ _ _) _ ?_ ?_; rotate_left; (conv => whnf); rotate_right))); all_goals (try ((guard_target = Zaa _ _ _ _); refine Zae ?_; (all_goals (try simp only [Zaa, kz1, kz2, kz3, kz4, kz5, kz6, kz7, kz8, kz9, kz10, kz11, kz12, kz13, kz14, kz15, kz16, kz17, kz18, kz19, kz20, maxL, Zac] at *)); all_goals omega)))
  refine Zao 16 (fun hl => ?_)
  have hl0 : (A.getD (0 + (blk : Int).toNat) []).length ≤ maxL := hl.1
  clear hl
  have ha : A.getD (0 + (blk : Int).toNat) [] = A.getD blk [] := by simp
  have hgen : ∃ a, A.getD blk [] = a := ⟨_, rfl⟩
  obtain ⟨a, haa⟩ := hgen
  rw [haa] at hn ha ⊢
  rw [ha] at hl0
  refine Zat (fun p : Nat => mkS [(1, .rs k3 1 0 n), (3, iv but), (16, bools a), (17, iv a.length), (18, iv p)] [((1, 7, 0), sBox f k1 k2 na nb), ((2, 7, 0), setR A na), ((3, 7, 0), rowX β nb), ((4, 7, 0), Zbd n (mgF g a but p))]) (fun p => p ≤ a.length) (fun p => a.length - p) 0 (Nat.zero_le _) ?_ ?_
  · refine Weak.list [((1, 7, 0), .old (1, 7, 0), sBox f k1 k2 na nb), ((2, 7, 0), .old (2, 7, 0), setR A na), ((3, 7, 0), .old (3, 7, 0), rowX β nb), ((4, 7, 0), .old (4, 7, 0), Zbd n (mgF g a but 0))] rfl (by rfl) ?_ (.old rfl (BLe.rowO rfl) (.old rfl (BLe.refl _) (.old rfl (BLe.refl _) (.old rfl (BLe.refl _) .nil))))
    rw [← ha]
    ((repeat' first | exact TLes.nil | refine TLes.cons (TLe.eq rfl) ?_); skip)
  intro p hp
  (repeat' ((fail_if_success (show AWp _ _ _ (Code.region 2 _ _) _ _)); first | refine Zad ?_ | (refine Zab tok (by rfl) ?_; conv => whnf) | refine Zai ?_ | (refine Zag ?_; conv => whnf) | (refine Zas ?_; conv => whnf) | refine Zaf rfl (fun hb => ?_) (fun hb => ?_)))
  · have hpl : p < a.length := by simp only [decide_eq_true_eq] at hb; omega
    clear hb
    ((repeat' first | (refine Zab tok (by rfl) ?_; conv => whnf) | (refine @And.intro (Zaa _ _ _ _) _ ?_ ?_; rotate_left; (conv => whnf); rotate_right)); all_goals (try ((guard_target = Zaa _ _ _ _); refine Zae ?_; (all_goals (try simp only [Zaa, kz1, kz2, kz3, kz4, kz5, kz6, kz7, kz8, kz9, kz10, kz11, kz12, kz13, kz14, kz15, kz16, kz17, kz18, kz19, kz20, maxL, Zac] at *)); all_goals omega)))
    refine ⟨p + 1, hpl, by omega, ?_⟩
    refine Weak.list [((1, 7, 0), .old (1, 7, 0), sBox f k1 k2 na nb), ((2, 7, 0), .old (2, 7, 0), setR A na), ((3, 7, 0), .old (3, 7, 0), rowX β nb), ((4, 7, 0), .old (4, 7, 0), Zbd n (mgF g a but (p + 1)))] rfl (by rfl) ?_ (.old rfl (BLe.rowO rfl) (.old rfl (BLe.refl _) (.old rfl (BLe.refl _) (.old rfl (BLe.rowW (Nat.le_refl _) (fun z hz => Wks.of ?_)) .nil))))
    · ((repeat' first | exact TLes.nil | refine TLes.cons (TLe.eq rfl) ?_ | refine TLes.cons (TLe.int ?_) ?_); (all_goals first | ((try (simp only [Zaa, kz1, kz2, kz3, kz4, kz5, kz6, kz7, kz8, kz9, kz10, kz11, kz12, kz13, kz14, kz15, kz16, kz17, kz18, kz19, kz20, maxL, Zac] at *)); exact wrap64 (by omega) (by omega)) | skip))
    · have hpp : (p : Int).toNat = p := Int.toNat_natCast p
      by_cases e : p = z
      · subst e
        refine (updR_hit' (f := fun q => [.bool (mgF g a but p q)]) (by rw [hpp, Nat.zero_add])).trans ?_
        rw [hpp, Nat.zero_add]
        unfold mgF
        rw [if_neg (Nat.lt_irrefl p), if_pos (Nat.lt_succ_self p)]
        cases g p <;> cases a.getD p false <;> simp
      · refine (updR_miss (f := fun q => [.bool (mgF g a but p q)]) (k := 0 + (p : Int).toNat) (by rw [hpp]; omega)).trans ?_
        unfold mgF
        by_cases h1 : z < p
        · rw [if_pos h1, if_pos (by omega)]
        · rw [if_neg h1, if_neg (by omega)]
  · have hpl : p = a.length := by simp only [decide_eq_false_iff_not] at hb; omega
    subst hpl
    exact ⟨_, [(k0, .old k0, sBox f k1 k2 na nb), (k1, .old k1, setR A na), (k2, .old k2, rowX β nb), (k3, .old k3, Zbd n (mgF g a but a.length))], rfl, rfl, rfl, rfl, .old rfl (BLe.rowO rfl) (.old rfl (BLe.refl _) (.old rfl (BLe.refl _) (.old rfl (BLe.refl _) .nil))), .eq rfl⟩
abbrev k5 : Dv.Id := (5, 7, 0)
abbrev rowS (n nb m : Nat) (vals : Nat → Value) : Zam := .row false 1 nb (fun q => [bif Nat.beq q n then .rs k5 1 0 m else .is (vals q)])
theorem BLe_S {ρ : Dv.Id → Option Dv.Id} {n nb m : Nat} {vals : Nat → Value} (h : ρ k5 = some k5) : BLe (Dv.mapB ρ (rowS n nb m vals)) (rowS n nb m vals) := by
  have : Dv.mapB ρ (rowS n nb m vals) = rowS n nb m vals := by
    unfold rowS Dv.mapB
    simp only [cond_false]
    congr 1
    funext q
    show [Zbh ρ (bif Nat.beq q n then .rs k5 1 0 m else .is (vals q))] = _
    cases Nat.beq q n with
    | true => simp only [cond_true, Zbh, h]
    | false => rfl
  rw [this]; exact BLe.refl _
theorem GV_S {src : Dv.Id → Option Dv.Id} {h h' : Zap} {c : Bool} {m : Nat} {v : Value} {b : Zam} (hj : h' k5 = some b) (hs : src k5 = some k5) : GV src h h' (bif c then .rs k5 1 0 m else .is v) (bif c then .rs k5 1 0 m else .is v) := by
  cases c with
  | true => exact .rs hj hs rfl rfl
  | false => exact .imm rfl
set_option maxHeartbeats 4000000 in
theorem c_overX (f : Func) (n : Nat) (A : List (List Bool)) (vals : Nat → Value) (nb : Nat) (hR0 : 0 ≤ f.regs) (hR2 : f.regs ≤ 256) (hA : OkA f A) (hB : nb = f.blocks.length) (hn : n < f.blocks.length) (hfb : f.blocks.length ≤ 64) (hok : OkL f (f.blocks.getD n default)) :
    HC Tryz.prog [k0, k1, k2] 60 [(k0, sBox f k1 k2 A.length nb), (k1, setR A A.length), (k2, rowX (fun q => .is (vals q)) nb)] [.bp k0 0, iv n] (.bool (decide (Zfz A f.regs.toNat f n ≠ A.getD n [])))
      [(k0, sBox f k1 k2 A.length nb), (k1, setR (A.set n (Zfz A f.regs.toNat f n)) A.length), (k2, rowS n nb f.regs.toNat vals), (k5, Zbd f.regs.toNat (fun q => (newBe A f.regs.toNat f n).getD q false))] := by
  refine Zbr tok Tryz.func60 rfl (by decide +kernel) (Nat.le_of_ble_eq_true rfl) ?_
  have hmx : maxL = 4294967296 := rfl
  have hAl := hA.len
  have hAe : ∀ i, i < A.length → (A.getD i []).length = f.regs.toNat := fun i hi => by have := hA.each i hi; omega
  have hgen : ∃ b, f.blocks.getD n default = b := ⟨_, rfl⟩
  obtain ⟨b, hbn⟩ := hgen
  unfold Zfz newBe
  rw [hbn] at hok ⊢
  ((repeat' ((fail_if_success (show AWp _ _ _ (Code.region 3 _ _) _ _)); first | refine Zad ?_ | (refine Zab tok (by rfl) ?_; conv => whnf) | (refine @And.intro (Zaa _ _ _ _) _ ?_ ?_; rotate_left; (conv => whnf); rotate_right))); all_goals (try ((guard_target = Zaa _ _ _ _); refine Zae ?_; (all_goals (try simp only [Zaa, kzz, kz11, kz12, maxL, Zac] at *)); all_goals omega)))
  refine Zaq (Weak.list (tl := [(0, .bp k0 0), (1, iv n), (5, .bp (5, 0, 0) 0), (6, .bp (6, 7, 0) 0)]) [((1, 7, 0), .old (1, 7, 0), sBox f k1 k2 A.length nb), ((2, 7, 0), .old (2, 7, 0), setR A A.length), ((3, 7, 0), .old (3, 7, 0), rowX (fun q => .is (vals q)) nb), ((5, 0, 0), .old (5, 0, 0), .row true 14 1 (fun _ => Za8 b)), ((6, 7, 0), .old (6, 0, 0), .row false 1 1 (fun _ => [.rs (32, 0, 0) 1 0 f.regs.toNat])), ((32, 0, 0), .old (32, 0, 0), Zbd f.regs.toNat (fun _ => false))] rfl (by rfl) ?_ (.old rfl (BLe.rowO rfl) (.old rfl (BLe.refl _) (.old rfl (BLe.refl _) (.old rfl (BLe.rowW (Nat.le_refl _) (ltS (Wks.of (by rw [← hbn, Int.toNat_natCast]; rfl)) lt0)) (.old rfl (BLe.rowO rfl) (.old rfl (BLe.refl _) .nil))))))) ?_
  · ((repeat' first | exact TLes.nil | refine TLes.cons (TLe.eq rfl) ?_); skip)
  (repeat' (refine Zab tok (by rfl) ?_; conv => whnf))
  refine .inl ⟨_, _, _, uG (QC.fo (rd := []) (c_Goals b) (Ress.imms rfl) (.inl rfl) rfl), ?_⟩
  conv => whnf
  (repeat' refine Zai ?_)
  have hlen3 : (Zbf b).length ≤ 2 := by
    unfold Zbf; split
    · simp
    · split <;> simp
  refine Zat (fun k : Nat => mkS [(0, .bp k0 0), (1, iv n), (5, .bp (5, 0, 0) 0), (6, .bp (6, 7, 0) 0), (34, .rs (34, 0, 0) 1 0 (Zbf b).length), (35, iv (Zbf b).length), (36, iv k)] [((1, 7, 0), sBox f k1 k2 A.length nb), ((2, 7, 0), setR A A.length), ((3, 7, 0), rowX (fun q => .is (vals q)) nb), ((5, 0, 0), .row true 14 1 (fun _ => Za8 b)), ((6, 7, 0), .row false 1 1 (fun _ => [.rs (32, 0, 0) 1 0 f.regs.toNat])), ((32, 0, 0), Zbd f.regs.toNat (Zcp A f.regs.toNat b ((Zbf b).take k))), ((34, 0, 0), .row true 1 (Zbf b).length (fun i => [iv ((Zbf b).getD i 0)]))]) (fun k => k ≤ (Zbf b).length) (fun k => (Zbf b).length - k) 0 (Nat.zero_le _) ?_ ?_
  · refine Weak.list [((1, 7, 0), .old (1, 7, 0), sBox f k1 k2 A.length nb), ((2, 7, 0), .old (2, 7, 0), setR A A.length), ((3, 7, 0), .old (3, 7, 0), rowX (fun q => .is (vals q)) nb), ((5, 0, 0), .old (5, 0, 0), .row true 14 1 (fun _ => Za8 b)), ((6, 7, 0), .old (6, 7, 0), .row false 1 1 (fun _ => [.rs (32, 0, 0) 1 0 f.regs.toNat])), ((32, 0, 0), .old (32, 0, 0), Zbd f.regs.toNat (Zcp A f.regs.toNat b ((Zbf b).take 0))), ((34, 0, 0), .old (34, 0, 0), .row true 1 (Zbf b).length (fun i => [iv ((Zbf b).getD i 0)]))] rfl (by rfl) ?_ (.old rfl (BLe.rowO rfl) (.old rfl (BLe.refl _) (.old rfl (BLe.refl _) (.old rfl (BLe.refl _) (.old rfl (BLe.rowO rfl) (.old rfl (BLe.refl _) (.old rfl (BLe.refl _) .nil)))))))
    ((repeat' first | exact TLes.nil | refine TLes.cons (TLe.eq rfl) ?_); skip)
  intro k hk
  (repeat' ((fail_if_success (show AWp _ _ _ (Code.region 5 _ _) _ _)); (fail_if_success (show AWp _ _ _ (Code.region 11 _ _) _ _)); first | refine Zad ?_ | (refine Zab tok (by rfl) ?_; conv => whnf) | refine Zai ?_ | (refine Zag ?_; conv => whnf) | (refine Zas ?_; conv => whnf) | refine Zaf rfl (fun hb => ?_) (fun hb => ?_)))
  · have hkl : k < (Zbf b).length := by simp only [decide_eq_true_eq] at hb; omega
    clear hb
    have hsucc := gGoals_succ (A := A) (R := f.regs.toNat) (b := b) hkl
    have hgk := hok.goals _ (Zf7 0 hkl)
    have hgen : ∃ q : Nat, (Zbf b).getD k 0 = q := ⟨((Zbf b).getD k 0).toNat, by omega⟩
    obtain ⟨q, hq⟩ := hgen
    rw [hq] at hsucc hgk
    have hAq := hAe q (by omega)
    rw [Int.toNat_natCast] at hsucc
    have hcall : ∀ x y, x = (Zbf b).getD (k : Int).toNat 0 → y = butOf b → HC Tryz.prog [k0, k1, k2, k3] 80 [(k0, sBox f k1 k2 A.length nb), (k1, setR A A.length), (k2, rowX (fun q => .is (vals q)) nb), (k3, Zbd f.regs.toNat (Zcp A f.regs.toNat b ((Zbf b).take k)))] [.bp k0 0, .rs k3 1 0 f.regs.toNat, iv x, iv y] (.tup [])
        [(k0, sBox f k1 k2 A.length nb), (k1, setR A A.length), (k2, rowX (fun q => .is (vals q)) nb), (k3, Zbd f.regs.toNat (Zcp A f.regs.toNat b ((Zbf b).take (k + 1))))] := fun x y e1 e2 => by
      have := c_mergeX f A (fun q => .is (vals q)) A.length nb f.regs.toNat (Zcp A f.regs.toNat b ((Zbf b).take k)) q y (by omega) (by omega)
      rw [hAq, e2] at this
      rw [hsucc, e1, e2, Int.toNat_natCast, hq]; exact this
    ((repeat' ((fail_if_success (show AWp _ _ _ (Code.region 9 _ _) _ _)); first | refine Zad ?_ | (refine Zab tok (by rfl) ?_; conv => whnf) | (refine Zag ?_; conv => whnf) | refine Zaf rfl (fun hb => ?_) (fun hb => ?_) | (refine @And.intro (Zaa _ _ _ _) _ ?_ ?_; rotate_left; (conv => whnf); rotate_right))); all_goals (try ((guard_target = Zaa _ _ _ _); refine Zae ?_; (all_goals (try simp only [Zaa, kzz, kz11, kz12, maxL, Zac] at *)); all_goals omega)))
    · have hbo : butOf b = b.fin.dst := by unfold butOf; rw [if_pos (by simpa using hb)]
      clear hb
      (repeat' (refine Zab tok (by rfl) ?_; conv => whnf))
      refine .inr ⟨_, _, _, uG (QH.of (dead := []) [(k0, .old k0, sBox f k1 k2 A.length nb), (k1, .old k1, setR A A.length), (k2, .old k2, rowX (fun q => .is (vals q)) nb), (k3, .old (32, 0, 0), Zbd f.regs.toNat (Zcp A f.regs.toNat b ((Zbf b).take k)))] (hcall ((Zbf b).getD (0 + (k : Int).toNat) 0) b.fin.dst (by rw [Nat.zero_add]) hbo.symm) rfl (.old rfl (BLe.rowO rfl) (.old rfl (BLe.refl _) (.old rfl (BLe.refl _) (.old rfl (BLe.refl _) .nil)))) (.cons (.eq rfl) (.cons (.eq rfl) (.cons (.eq rfl) (.cons (.eq rfl) .nil)))) [(k0, k0), (k1, k1), (k2, k2), (k3, (32, 0, 0))] rfl (.cons rfl (BLe.rowO rfl) (.cons rfl (BLe.refl _) (.cons rfl (BLe.refl _) (.cons rfl (BLe.refl _) .nil)))) rfl), ?_⟩
      conv => whnf
      (repeat' (refine Zab tok (by rfl) ?_; conv => whnf))
      refine ⟨k + 1, hkl, by omega, ?_⟩
      refine Weak.list [((1, 7, 0), .old (1, 7, 0), sBox f k1 k2 A.length nb), ((2, 7, 0), .old (2, 7, 0), setR A A.length), ((3, 7, 0), .old (3, 7, 0), rowX (fun q => .is (vals q)) nb), ((5, 0, 0), .old (5, 0, 0), .row true 14 1 (fun _ => Za8 b)), ((6, 7, 0), .old (6, 7, 0), .row false 1 1 (fun _ => [.rs (32, 0, 0) 1 0 f.regs.toNat])), ((32, 0, 0), .old (32, 0, 0), Zbd f.regs.toNat (Zcp A f.regs.toNat b ((Zbf b).take (k + 1)))), ((34, 0, 0), .old (34, 0, 0), .row true 1 (Zbf b).length (fun i => [iv ((Zbf b).getD i 0)]))] rfl (by rfl) ?_ (.old rfl (BLe.rowO rfl) (.old rfl (BLe.refl _) (.old rfl (BLe.refl _) (.old rfl (BLe.refl _) (.old rfl (BLe.rowO rfl) (.old rfl (BLe.refl _) (.old rfl (BLe.refl _) .nil)))))))
      ((repeat' first | exact TLes.nil | refine TLes.cons (TLe.eq rfl) ?_ | refine TLes.cons (TLe.int ?_) ?_); (all_goals first | ((try (simp only [Zaa, kzz, kz11, kz12, maxL, Zac] at *)); exact wrap64 (by omega) (by omega)) | skip))
    · have hbo : butOf b = -1 := by unfold butOf; rw [if_neg (by simpa using hb)]
      clear hb
      (repeat' (refine Zab tok (by rfl) ?_; conv => whnf))
      refine .inr ⟨_, _, _, uG (QH.of (dead := []) [(k0, .old k0, sBox f k1 k2 A.length nb), (k1, .old k1, setR A A.length), (k2, .old k2, rowX (fun q => .is (vals q)) nb), (k3, .old (32, 0, 0), Zbd f.regs.toNat (Zcp A f.regs.toNat b ((Zbf b).take k)))] (hcall ((Zbf b).getD (0 + (k : Int).toNat) 0) (-1) (by rw [Nat.zero_add]) hbo.symm) rfl (.old rfl (BLe.rowO rfl) (.old rfl (BLe.refl _) (.old rfl (BLe.refl _) (.old rfl (BLe.refl _) .nil)))) (.cons (.eq rfl) (.cons (.eq rfl) (.cons (.eq rfl) (.cons (.eq rfl) .nil)))) [(k0, k0), (k1, k1), (k2, k2), (k3, (32, 0, 0))] rfl (.cons rfl (BLe.rowO rfl) (.cons rfl (BLe.refl _) (.cons rfl (BLe.refl _) (.cons rfl (BLe.refl _) .nil)))) rfl), ?_⟩
      conv => whnf
      (repeat' (refine Zab tok (by rfl) ?_; conv => whnf))
      refine ⟨k + 1, hkl, by omega, ?_⟩
      refine Weak.list [((1, 7, 0), .old (1, 7, 0), sBox f k1 k2 A.length nb), ((2, 7, 0), .old (2, 7, 0), setR A A.length), ((3, 7, 0), .old (3, 7, 0), rowX (fun q => .is (vals q)) nb), ((5, 0, 0), .old (5, 0, 0), .row true 14 1 (fun _ => Za8 b)), ((6, 7, 0), .old (6, 7, 0), .row false 1 1 (fun _ => [.rs (32, 0, 0) 1 0 f.regs.toNat])), ((32, 0, 0), .old (32, 0, 0), Zbd f.regs.toNat (Zcp A f.regs.toNat b ((Zbf b).take (k + 1)))), ((34, 0, 0), .old (34, 0, 0), .row true 1 (Zbf b).length (fun i => [iv ((Zbf b).getD i 0)]))] rfl (by rfl) ?_ (.old rfl (BLe.rowO rfl) (.old rfl (BLe.refl _) (.old rfl (BLe.refl _) (.old rfl (BLe.refl _) (.old rfl (BLe.rowO rfl) (.old rfl (BLe.refl _) (.old rfl (BLe.refl _) .nil)))))))
      ((repeat' first | exact TLes.nil | refine TLes.cons (TLe.eq rfl) ?_ | refine TLes.cons (TLe.int ?_) ?_); (all_goals first | ((try (simp only [Zaa, kzz, kz11, kz12, maxL, Zac] at *)); exact wrap64 (by omega) (by omega)) | skip))
  have hkl : k = (Zbf b).length := by simp only [decide_eq_false_iff_not] at hb; omega
  clear hb
  subst hkl
  refine Zaq (Weak.list (tl := [(0, .bp k0 0), (1, iv n), (5, .bp (5, 0, 0) 0), (6, .bp (6, 7, 0) 0)]) [((1, 7, 0), .old (1, 7, 0), sBox f k1 k2 A.length nb), ((2, 7, 0), .old (2, 7, 0), setR A A.length), ((3, 7, 0), .old (3, 7, 0), rowX (fun q => .is (vals q)) nb), ((5, 0, 0), .old (5, 0, 0), .row true 14 1 (fun _ => Za8 b)), ((6, 7, 0), .old (6, 7, 0), .row false 1 1 (fun _ => [.rs (32, 0, 0) 1 0 f.regs.toNat])), ((32, 0, 0), .old (32, 0, 0), Zbd f.regs.toNat (Zcp A f.regs.toNat b (Zbf b)))] rfl (by rfl) ?_ (.old rfl (BLe.rowO rfl) (.old rfl (BLe.refl _) (.old rfl (BLe.refl _) (.old rfl (BLe.refl _) (.old rfl (BLe.rowO rfl) (.old rfl (BLe.rowW (Nat.le_refl _) (fun z hz => Wks.of (by rw [List.take_length]; rfl))) .nil))))))) ?_
  · ((repeat' first | exact TLes.nil | refine TLes.cons (TLe.eq rfl) ?_); skip)
  refine Zab tok (by rfl) ?_
  conv => whnf
  refine Zc2 (α := Unit) (fun _ => mkS [(0, .bp k0 0), (1, iv n), (5, .bp (5, 0, 0) 0), (6, .bp (6, 7, 0) 0)] [((1, 7, 0), sBox f k1 k2 A.length nb), ((2, 7, 0), setR A A.length), ((3, 7, 0), rowX (fun q => .is (vals q)) nb), ((5, 0, 0), .row true 14 1 (fun _ => Za8 b)), ((6, 7, 0), .row false 1 1 (fun _ => [.rs (32, 0, 0) 1 0 f.regs.toNat])), ((32, 0, 0), Zbd f.regs.toNat (gPad A f.regs.toNat f b))]) (fun _ => True) ?_ ?_
  · refine Zaf rfl (fun hb => ?_) (fun hb => ?_)
    · have h4 : b.fin.kind = 4 := by simpa using hb
      clear hb
      obtain ⟨hp1, hp2⟩ := hok.pad h4
      have hgen : ∃ q : Nat, b.fin.pad = q := ⟨b.fin.pad.toNat, by omega⟩
      obtain ⟨q, hq⟩ := hgen
      have hAq := hAe q (by omega)
      have hcall : ∀ x y, x = b.fin.pad → y = (f.blocks.getD b.fin.pad.toNat default).pad.dst → HC Tryz.prog [k0, k1, k2, k3] 80 [(k0, sBox f k1 k2 A.length nb), (k1, setR A A.length), (k2, rowX (fun q => .is (vals q)) nb), (k3, Zbd f.regs.toNat (Zcp A f.regs.toNat b (Zbf b)))] [.bp k0 0, .rs k3 1 0 f.regs.toNat, iv x, iv y] (.tup [])
          [(k0, sBox f k1 k2 A.length nb), (k1, setR A A.length), (k2, rowX (fun q => .is (vals q)) nb), (k3, Zbd f.regs.toNat (gPad A f.regs.toNat f b))] := fun x y e1 e2 => by
        have := c_mergeX f A (fun q => .is (vals q)) A.length nb f.regs.toNat (Zcp A f.regs.toNat b (Zbf b)) q y (by omega) (by omega)
        have e3 : gPad A f.regs.toNat f b = mgF (Zcp A f.regs.toNat b (Zbf b)) (A.getD q []) (f.blocks.getD b.fin.pad.toNat default).pad.dst f.regs.toNat := by
          unfold gPad; rw [if_pos h4, hq, Int.toNat_natCast]
        rw [e3, e1, hq]
        rw [hAq] at this
        rw [e2, hq] at this
        rw [e2, hq]; exact this
      have hfl : 0 ≤ b.fin.pad ∧ b.fin.pad < f.blocks.length := ⟨hp1, hp2⟩
      ((repeat' first | (refine Za0 tok mix (by rfl) ?_; conv => whnf) | (refine @And.intro (Zaa _ _ _ _) _ ?_ ?_; rotate_left; (conv => whnf); rotate_right)); all_goals (try ((guard_target = Zaa _ _ _ _); refine Zae ?_; (all_goals (try simp only [Zaa, kzz, kz11, kz12, maxL, Zac] at *)); all_goals omega)))
      refine .inr ⟨_, _, _, uG (QH.of (dead := []) [(k0, .old k0, sBox f k1 k2 A.length nb), (k1, .old k1, setR A A.length), (k2, .old k2, rowX (fun q => .is (vals q)) nb), (k3, .old (32, 0, 0), Zbd f.regs.toNat (Zcp A f.regs.toNat b (Zbf b)))] (hcall b.fin.pad (f.blocks.getD b.fin.pad.toNat default).pad.dst rfl rfl) rfl (.old rfl (BLe.rowO rfl) (.old rfl (BLe.refl _) (.old rfl (BLe.refl _) (.old rfl (BLe.refl _) .nil)))) (.cons (.eq rfl) (.cons (.eq rfl) (.cons (.eq rfl) (.cons (.eq rfl) .nil)))) [(k0, k0), (k1, k1), (k2, k2), (k3, (32, 0, 0))] rfl (.cons rfl (BLe.rowO rfl) (.cons rfl (BLe.refl _) (.cons rfl (BLe.refl _) (.cons rfl (BLe.refl _) .nil)))) rfl), ?_⟩
      conv => whnf
      skip
      refine ⟨(), trivial, Weak.list [((1, 7, 0), .old (1, 7, 0), sBox f k1 k2 A.length nb), ((2, 7, 0), .old (2, 7, 0), setR A A.length), ((3, 7, 0), .old (3, 7, 0), rowX (fun q => .is (vals q)) nb), ((5, 0, 0), .old (5, 0, 0), .row true 14 1 (fun _ => Za8 b)), ((6, 7, 0), .old (6, 7, 0), .row false 1 1 (fun _ => [.rs (32, 0, 0) 1 0 f.regs.toNat])), ((32, 0, 0), .old (32, 0, 0), Zbd f.regs.toNat (gPad A f.regs.toNat f b))] rfl (by rfl) ?_ (.old rfl (BLe.rowO rfl) (.old rfl (BLe.refl _) (.old rfl (BLe.refl _) (.old rfl (BLe.refl _) (.old rfl (BLe.rowO rfl) (.old rfl (BLe.refl _) .nil))))))⟩
      ((repeat' first | exact TLes.nil | refine TLes.cons (TLe.eq rfl) ?_); skip)
    · have h4 : ¬ b.fin.kind = 4 := by simpa using hb
      clear hb
      (repeat' (refine Zag ?_; conv => whnf))
      refine ⟨(), trivial, Weak.list [((1, 7, 0), .old (1, 7, 0), sBox f k1 k2 A.length nb), ((2, 7, 0), .old (2, 7, 0), setR A A.length), ((3, 7, 0), .old (3, 7, 0), rowX (fun q => .is (vals q)) nb), ((5, 0, 0), .old (5, 0, 0), .row true 14 1 (fun _ => Za8 b)), ((6, 7, 0), .old (6, 7, 0), .row false 1 1 (fun _ => [.rs (32, 0, 0) 1 0 f.regs.toNat])), ((32, 0, 0), .old (32, 0, 0), Zbd f.regs.toNat (gPad A f.regs.toNat f b))] rfl (by rfl) ?_ (.old rfl (BLe.rowO rfl) (.old rfl (BLe.refl _) (.old rfl (BLe.refl _) (.old rfl (BLe.refl _) (.old rfl (BLe.rowO rfl) (.old rfl (BLe.rowW (Nat.le_refl _) (fun z hz => Wks.of (by unfold gPad; rw [if_neg h4]; rfl))) .nil))))))⟩
      ((repeat' first | exact TLes.nil | refine TLes.cons (TLe.eq rfl) ?_); skip)
  rintro ⟨⟩ - τ hw
  refine Zaq hw ?_
  clear hw
  have hcl : FO Tryz.prog 81 [bools (listB f.regs.toNat (gPad A f.regs.toNat f b))] 1 (listB f.regs.toNat (gPad A f.regs.toNat f b)).length (fun i => [.bool ((listB f.regs.toNat (gPad A f.regs.toNat f b)).getD i false)]) := c_CloneBools _
  have hli : ∀ q, q < f.regs.toNat → [AV.bool (gPad A f.regs.toNat f b q)] = [AV.bool ((listB f.regs.toNat (gPad A f.regs.toNat f b)).getD q false)] := fun q hq => by rw [Zf3 hq]
  have hll := listB_len f.regs.toNat (gPad A f.regs.toNat f b)
  have hgen : ∃ be, listB f.regs.toNat (gPad A f.regs.toNat f b) = be := ⟨_, rfl⟩
  obtain ⟨be, hbe⟩ := hgen
  rw [hbe] at hcl hli hll ⊢
  (repeat' first | refine Zad ?_ | (refine Za0 tok mix (by rfl) ?_; conv => whnf))
  refine .inl ⟨_, _, _, uG (QC.fo (rd := [(32, 0, 0)]) hcl (.cons (.row rfl (.head _) rfl hll.symm hli) .nil) (.inr (fun _ _ => rfl)) rfl), ?_⟩
  conv => whnf
  ((repeat' ((fail_if_success (show AWp _ _ _ (Code.region 14 _ _) _ _)); first | refine Zad ?_ | (refine @And.intro (Zaa _ _ _ _) _ ?_ ?_; rotate_left; (conv => whnf); rotate_right))); all_goals (try ((guard_target = Zaa _ _ _ _); refine Zae ?_; (all_goals (try simp only [Zaa, kzz, kz11, kz12, maxL, Zac] at *)); all_goals omega)))
  have hLs : ∀ i ∈ [k0, k1, k2], srcL [(k5, some (81, 0, 0))] i = some i := fun i hi => by
    simp only [List.mem_cons, List.not_mem_nil, or_false] at hi
    rcases hi with rfl | rfl | rfl <;> rfl
  have hLp : ∀ (h : Zap), (h k0).isSome = true → (h k1).isSome = true → (h k2).isSome = true → ∀ i ∈ [k0, k1, k2], pinId i = true → (h i).isSome = true ∧ srcL [] i = some i := fun h h0 h1 h2 i hi _ => by
    simp only [List.mem_cons, List.not_mem_nil, or_false] at hi
    rcases hi with rfl | rfl | rfl
    · exact ⟨h0, rfl⟩
    · exact ⟨h1, rfl⟩
    · exact ⟨h2, rfl⟩
  refine Zaq (Weak.fam (tl := [(0, .bp k0 0), (1, iv n), (5, .bp (5, 0, 0) 0), (6, .bp (6, 7, 0) 0)]) (hl := [((1, 7, 0), sBox f k1 k2 A.length nb), ((2, 7, 0), setR A A.length), ((3, 7, 0), rowS n nb f.regs.toNat vals), ((5, 0, 0), .row true 14 1 (fun _ => Za8 b)), ((6, 7, 0), .row false 1 1 (fun _ => [.rs (32, 0, 0) 1 0 f.regs.toNat])), ((32, 0, 0), Zbd f.regs.toNat (gPad A f.regs.toNat f b)), ((5, 7, 0), Zbd f.regs.toNat (fun q => be.getD q false))]) (F := noH) [(k5, some (81, 0, 0))] rfl (fun c hc => by simp only [tgts, List.mem_singleton] at hc; subst hc; exact .inl rfl) ?_ ?_ noF (fun i hi hp => ⟨(hLp _ rfl rfl rfl i hi hp).1, hLs i hi⟩)) ?_
  · (repeat' first | exact TLg.nil | refine TLg.cons (GV.imm rfl) ?_ | refine TLg.cons (GV.bp rfl rfl) ?_)
    all_goals rfl
  · refine .old rfl rfl (GB.one (.cons (.imm rfl) (.cons (.imm rfl) (.cons (.imm rfl) (.cons (.rs rfl rfl rfl rfl) (.cons (.rs rfl rfl rfl rfl) .nil))))) (fun e => by cases e)) (.old rfl rfl (GB.rowI (Nat.le_refl _) (fun q hq => ⟨rfl, rfl⟩)) (.old rfl rfl (GB.row (Nat.le_refl _) (fun q hq => GVs.upd (fun e => ?_) (fun e => ?_)) (fun e => by cases e)) (.old rfl rfl (GB.one (GVs.imm rfl) (fun _ => rfl)) (.old rfl rfl (GB.one (.cons (.rs rfl rfl rfl rfl) .nil) (fun e => by cases e)) (.old rfl rfl (GB.rowI (Nat.le_refl _) (fun q hq => ⟨rfl, rfl⟩)) (.old rfl rfl (GB.rowI (Nat.le_of_eq hll.symm) (fun q hq => ⟨rfl, rfl⟩)) .nil))))))
    · rw [Nat.zero_add, Int.toNat_natCast] at e
      subst e
      exact .cons (.cc rfl (show (bif Nat.beq q q then _ else _) = _ by rw [show Nat.beq q q = true by simp]; rfl) (.rs rfl rfl rfl hll)) .nil
    · rw [Nat.zero_add, Int.toNat_natCast] at e
      have e' : Nat.beq q n = false := by rw [Bool.eq_false_iff]; intro h; exact e (Nat.eq_of_beq_eq_true h)
      exact .cons (.cc rfl (show (bif Nat.beq q n then _ else _) = _ by rw [e']; rfl) (.imm rfl)) .nil
  (repeat' (refine Zab tok (by rfl) ?_; conv => whnf))
  refine .inl ⟨_, _, _, uG (QC.fo (rd := []) (c_EndAsks b.fin) (Ress.imms rfl) (.inl rfl) rfl), ?_⟩
  conv => whnf
  (repeat' refine Zai ?_)
  refine Zao 86 (fun hl => ?_)
  have hle : ((Za3 b.fin).length : Int) ≤ 9223372036854775807 := hl.2
  clear hl
  refine Zat (fun j : Nat => mkS [(0, .bp k0 0), (1, iv n), (5, .bp (5, 0, 0) 0), (6, .bp (6, 7, 0) 0), (85, .rs (85, 0, 0) 1 0 (Za3 b.fin).length), (86, iv (Za3 b.fin).length), (87, iv j)] [((1, 7, 0), sBox f k1 k2 A.length nb), ((2, 7, 0), setR A A.length), ((3, 7, 0), rowS n nb f.regs.toNat vals), ((5, 0, 0), .row true 14 1 (fun _ => Za8 b)), ((6, 7, 0), .row false 1 1 (fun _ => [.rs (32, 0, 0) 1 0 f.regs.toNat])), ((32, 0, 0), Zbd f.regs.toNat (Zdf (gPad A f.regs.toNat f b) ((Za3 b.fin).take j))), ((5, 7, 0), Zbd f.regs.toNat (fun q => be.getD q false)), ((85, 0, 0), .row true 1 (Za3 b.fin).length (fun i => [iv ((Za3 b.fin).getD i 0)]))]) (fun j => j ≤ (Za3 b.fin).length) (fun j => (Za3 b.fin).length - j) 0 (Nat.zero_le _) ?_ ?_
  · refine Weak.list [((1, 7, 0), .old (1, 7, 0), sBox f k1 k2 A.length nb), ((2, 7, 0), .old (2, 7, 0), setR A A.length), ((3, 7, 0), .old (3, 7, 0), rowS n nb f.regs.toNat vals), ((5, 0, 0), .old (5, 0, 0), .row true 14 1 (fun _ => Za8 b)), ((6, 7, 0), .old (6, 7, 0), .row false 1 1 (fun _ => [.rs (32, 0, 0) 1 0 f.regs.toNat])), ((32, 0, 0), .old (32, 0, 0), Zbd f.regs.toNat (Zdf (gPad A f.regs.toNat f b) ((Za3 b.fin).take 0))), ((5, 7, 0), .old (5, 7, 0), Zbd f.regs.toNat (fun q => be.getD q false)), ((85, 0, 0), .old (85, 0, 0), .row true 1 (Za3 b.fin).length (fun i => [iv ((Za3 b.fin).getD i 0)]))] rfl (by rfl) ?_ (.old rfl (BLe.rowO rfl) (.old rfl (BLe.refl _) (.old rfl (BLe_S rfl) (.old rfl (BLe.refl _) (.old rfl (BLe.rowO rfl) (.old rfl (BLe.refl _) (.old rfl (BLe.refl _) (.old rfl (BLe.refl _) .nil))))))))
    ((repeat' first | exact TLes.nil | refine TLes.cons (TLe.eq rfl) ?_); skip)
  intro j hj
  (repeat' ((fail_if_success (show AWp _ _ _ (Code.region 16 _ _) _ _)); (fail_if_success (show AWp _ _ _ (Code.region 19 _ _) _ _)); first | refine Zad ?_ | (refine Zab tok (by rfl) ?_; conv => whnf) | refine Zai ?_ | (refine Zag ?_; conv => whnf) | (refine Zas ?_; conv => whnf) | refine Zaf rfl (fun hb => ?_) (fun hb => ?_)))
  · have hjl : j < (Za3 b.fin).length := by simp only [decide_eq_true_eq] at hb; omega
    clear hb
    have hsucc := upAll_succ (g := gPad A f.regs.toNat f b) hjl
    have hpj := hok.ends _ (Zf7 0 hjl)
    have hji : (Za3 b.fin).getD (0 + (j : Int).toNat) 0 = (Za3 b.fin).getD j 0 := by simp
    have hji2 : (Za3 b.fin).getD (j : Int).toNat 0 = (Za3 b.fin).getD j 0 := by simp
    ((repeat' first | (refine Zab tok (by rfl) ?_; conv => whnf) | (refine @And.intro (Zaa _ _ _ _) _ ?_ ?_; rotate_left; (conv => whnf); rotate_right)); all_goals (try ((guard_target = Zaa _ _ _ _); refine Zae ?_; (all_goals (try simp only [Zaa, kzz, kz11, kz12, maxL, Zac] at *)); all_goals omega)))
    refine ⟨j + 1, hjl, by omega, ?_⟩
    refine Weak.list [((1, 7, 0), .old (1, 7, 0), sBox f k1 k2 A.length nb), ((2, 7, 0), .old (2, 7, 0), setR A A.length), ((3, 7, 0), .old (3, 7, 0), rowS n nb f.regs.toNat vals), ((5, 0, 0), .old (5, 0, 0), .row true 14 1 (fun _ => Za8 b)), ((6, 7, 0), .old (6, 7, 0), .row false 1 1 (fun _ => [.rs (32, 0, 0) 1 0 f.regs.toNat])), ((32, 0, 0), .old (32, 0, 0), Zbd f.regs.toNat (Zdf (gPad A f.regs.toNat f b) ((Za3 b.fin).take (j + 1)))), ((5, 7, 0), .old (5, 7, 0), Zbd f.regs.toNat (fun q => be.getD q false)), ((85, 0, 0), .old (85, 0, 0), .row true 1 (Za3 b.fin).length (fun i => [iv ((Za3 b.fin).getD i 0)]))] rfl (by rfl) ?_ (.old rfl (BLe.rowO rfl) (.old rfl (BLe.refl _) (.old rfl (BLe_S rfl) (.old rfl (BLe.refl _) (.old rfl (BLe.rowO rfl) (.old rfl (BLe.rowW (Nat.le_refl _) (fun z hz => Wks.of ?_)) (.old rfl (BLe.refl _) (.old rfl (BLe.refl _) .nil))))))))
    · ((repeat' first | exact TLes.nil | refine TLes.cons (TLe.eq rfl) ?_ | refine TLes.cons (TLe.int ?_) ?_); (all_goals first | ((try (simp only [Zaa, kzz, kz11, kz12, maxL, Zac] at *)); exact wrap64 (by omega) (by omega)) | skip))
    · rw [hsucc]
      exact upRow (by rw [Nat.zero_add]; exact congrArg Int.toNat hji)
  have hjl : j = (Za3 b.fin).length := by simp only [decide_eq_false_iff_not] at hb; omega
  clear hb
  subst hjl
  (repeat' (refine Zab tok (by rfl) ?_; conv => whnf))
  refine .inl ⟨_, _, _, uG (QC.fc (c_Backward b.ins) rfl), ?_⟩
  conv => whnf
  refine Zai ?_
  have hgen : ∃ gB : Nat → Nat → Bool, gB = fun k => (b.ins.drop (b.ins.length - k)).foldr Zcv (gEnd A f.regs.toNat f b) := ⟨_, rfl⟩
  obtain ⟨gB, hgB⟩ := hgen
  have hg0 : gB 0 = Zdf (gPad A f.regs.toNat f b) ((Za3 b.fin).take (Za3 b.fin).length) := by rw [hgB, List.take_length]; simp only [Nat.sub_zero, List.drop_length, List.foldr_nil]; rfl
  have hgm : gB b.ins.length = gIns A f.regs.toNat f b := by rw [hgB]; simp only [Nat.sub_self, List.drop_zero]; rfl
  have hgs : ∀ k, k < b.ins.length → gB (k + 1) = Zcv (b.ins.getD (b.ins.length - 1 - k) default) (gB k) := fun k hk => by
    rw [hgB]
    simp only
    have e1 : b.ins.length - (k + 1) = b.ins.length - 1 - k := by omega
    rw [e1, Zd4 default (show b.ins.length - 1 - k < b.ins.length by omega), List.foldr_cons, show b.ins.length - 1 - k + 1 = b.ins.length - k by omega]
  refine Zaq (Weak.list (tl := [(0, .bp k0 0), (1, iv n), (6, .bp (6, 7, 0) 0), (97, .fn 61 [.ip [inss b.ins]])]) [((1, 7, 0), .old (1, 7, 0), sBox f k1 k2 A.length nb), ((2, 7, 0), .old (2, 7, 0), setR A A.length), ((3, 7, 0), .old (3, 7, 0), rowS n nb f.regs.toNat vals), ((6, 7, 0), .old (6, 7, 0), .row false 1 1 (fun _ => [.rs (32, 0, 0) 1 0 f.regs.toNat])), ((32, 0, 0), .old (32, 0, 0), Zbd f.regs.toNat (gB 0)), ((5, 7, 0), .old (5, 7, 0), Zbd f.regs.toNat (fun q => be.getD q false))] rfl (by rfl) ?_ (.old rfl (BLe.rowO rfl) (.old rfl (BLe.refl _) (.old rfl (BLe_S rfl) (.old rfl (BLe.rowO rfl) (.old rfl (BLe.rowW (Nat.le_refl _) (fun z hz => Wks.of (by rw [hg0]; rfl))) (.old rfl (BLe.refl _) .nil))))))) ?_
  · ((repeat' first | exact TLes.nil | refine TLes.cons (TLe.eq rfl) ?_); skip)
  refine AWp_back (gB := 61) (sz := 7) (m := b.ins.length) (f := fun i => Za2 (b.ins.getD i default)) [k0, k1, k2, (6, 7, 0), k5] (fun i hi => by simp only [List.mem_cons, List.not_mem_nil, or_false] at hi ⊢; rcases hi with h | h | h <;> simp [h]) (lookT [(0, .bp k0 0), (1, iv n), (6, .bp (6, 7, 0) 0), (97, .fn 61 [.ip [inss b.ins]])]) (fun k => Zbg [((1, 7, 0), sBox f k1 k2 A.length nb), ((2, 7, 0), setR A A.length), ((3, 7, 0), rowS n nb f.regs.toNat vals), ((6, 7, 0), .row false 1 1 (fun _ => [.rs (32, 0, 0) 1 0 f.regs.toNat])), ((32, 0, 0), Zbd f.regs.toNat (gB k)), ((5, 7, 0), Zbd f.regs.toNat (fun q => be.getD q false))]) c_back ⟨_, Tryz.func61, rfl, by decide +kernel⟩ rfl (by decide) (pinT_spec rfl) (fun k hk => ?_) ?_
  · have hs1 := hgs k hk
    have hmem := Zf7 default (show b.ins.length - 1 - k < b.ins.length by omega)
    have hgen : ∃ x, b.ins.getD (b.ins.length - 1 - k) default = x := ⟨_, rfl⟩
    obtain ⟨x, hx⟩ := hgen
    rw [hx] at hs1 hmem
    have hxs := hok.sets x hmem
    have hxa := hok.asks x hmem
    have hgen : ∃ g, gB k = g := ⟨_, rfl⟩
    obtain ⟨g, hg⟩ := hgen
    rw [hg] at hs1
    simp only [hx, hg]
    have hsv : Ze9 x = true → setsV x = x.dst := fun h => by unfold setsV; rw [if_pos h]
    have hS := c_Sets x
    have hAk := c_Asks x
    have hgen : ∃ g1, (if Ze9 x = true then upT g (setsV x) false else g) = g1 := ⟨_, rfl⟩
    obtain ⟨g1, hg1⟩ := hgen
    have hst : Zcv x g = Zdf g1 (Zbm x) := by unfold Zcv; rw [hg1]
    rw [hst] at hs1
    refine Zaq (Weak.list (tl := [(6, .bp (6, 7, 0) 0), (99, .agg (Za2 x))]) [((1, 7, 0), .old (1, 7, 0), sBox f k1 k2 A.length nb), ((2, 7, 0), .old (2, 7, 0), setR A A.length), ((3, 7, 0), .old (3, 7, 0), rowS n nb f.regs.toNat vals), ((6, 7, 0), .old (6, 7, 0), .row false 1 1 (fun _ => [.rs (32, 0, 0) 1 0 f.regs.toNat])), ((32, 0, 0), .old (32, 0, 0), Zbd f.regs.toNat g), ((5, 7, 0), .old (5, 7, 0), Zbd f.regs.toNat (fun q => be.getD q false))] rfl (by rfl) ?_ (.old rfl (BLe.rowO rfl) (.old rfl (BLe.refl _) (.old rfl (BLe_S rfl) (.old rfl (BLe.rowO rfl) (.old rfl (BLe.refl _) (.old rfl (BLe.refl _) .nil))))))) ?_
    · ((repeat' first | exact TLes.nil | refine TLes.cons (TLe.eq rfl) ?_); skip)
    (repeat' ((fail_if_success (show AWp _ _ _ (Code.region 21 _ _) _ _)); first | refine Zad ?_ | (refine Zab tok (by rfl) ?_; conv => whnf) | refine Zai ?_))
    refine Zaq (Weak.list (tl := [(6, .bp (6, 7, 0) 0), (13, .bp (13, 0, 0) 0)]) [((1, 7, 0), .old (1, 7, 0), sBox f k1 k2 A.length nb), ((2, 7, 0), .old (2, 7, 0), setR A A.length), ((3, 7, 0), .old (3, 7, 0), rowS n nb f.regs.toNat vals), ((6, 7, 0), .old (6, 7, 0), .row false 1 1 (fun _ => [.rs (32, 0, 0) 1 0 f.regs.toNat])), ((32, 0, 0), .old (32, 0, 0), Zbd f.regs.toNat g), ((5, 7, 0), .old (5, 7, 0), Zbd f.regs.toNat (fun q => be.getD q false)), ((13, 0, 0), .old (13, 0, 0), .row true 7 1 (fun _ => Za2 x))] rfl (by rfl) ?_ (.old rfl (BLe.rowO rfl) (.old rfl (BLe.refl _) (.old rfl (BLe_S rfl) (.old rfl (BLe.rowO rfl) (.old rfl (BLe.refl _) (.old rfl (BLe.refl _) (.old rfl (BLe.rowW (Nat.le_refl _) (ltS (Wks.of rfl) lt0)) .nil)))))))) ?_
    · ((repeat' first | exact TLes.nil | refine TLes.cons (TLe.eq rfl) ?_); skip)
    (repeat' (refine Zab tok (by rfl) ?_; conv => whnf))
    refine .inl ⟨_, _, _, uG (QC.fc hS rfl), ?_⟩
    conv => whnf
    (repeat' ((fail_if_success (show AWp _ _ _ (Code.region 22 _ _) _ _)); refine Zad ?_))
    refine Zab tok (by rfl) ?_
    conv => whnf
    refine Zc2 (α := Unit) (fun _ => mkS [(6, .bp (6, 7, 0) 0), (13, .bp (13, 0, 0) 0)] [((1, 7, 0), sBox f k1 k2 A.length nb), ((2, 7, 0), setR A A.length), ((3, 7, 0), rowS n nb f.regs.toNat vals), ((6, 7, 0), .row false 1 1 (fun _ => [.rs (32, 0, 0) 1 0 f.regs.toNat])), ((32, 0, 0), Zbd f.regs.toNat g1), ((5, 7, 0), Zbd f.regs.toNat (fun q => be.getD q false)), ((13, 0, 0), .row true 7 1 (fun _ => Za2 x))]) (fun _ => True) ?_ ?_
    · refine Zaf rfl (fun hb => ?_) (fun hb => ?_)
      · obtain ⟨hx1, hx2⟩ := hxs hb
        have hx3 := hsv hb
        rw [if_pos hb] at hg1
        ((repeat' first | (refine Zab tok (by rfl) ?_; conv => whnf) | (refine @And.intro (Zaa _ _ _ _) _ ?_ ?_; rotate_left; (conv => whnf); rotate_right)); all_goals (try ((guard_target = Zaa _ _ _ _); refine Zae ?_; (all_goals (try simp only [Zaa, kzz, kz11, kz12, maxL, Zac] at *)); all_goals omega)))
        refine ⟨(), trivial, Weak.list [((1, 7, 0), .old (1, 7, 0), sBox f k1 k2 A.length nb), ((2, 7, 0), .old (2, 7, 0), setR A A.length), ((3, 7, 0), .old (3, 7, 0), rowS n nb f.regs.toNat vals), ((6, 7, 0), .old (6, 7, 0), .row false 1 1 (fun _ => [.rs (32, 0, 0) 1 0 f.regs.toNat])), ((32, 0, 0), .old (32, 0, 0), Zbd f.regs.toNat g1), ((5, 7, 0), .old (5, 7, 0), Zbd f.regs.toNat (fun q => be.getD q false)), ((13, 0, 0), .old (13, 0, 0), .row true 7 1 (fun _ => Za2 x))] rfl (by rfl) ?_ (.old rfl (BLe.rowO rfl) (.old rfl (BLe.refl _) (.old rfl (BLe_S rfl) (.old rfl (BLe.rowO rfl) (.old rfl (BLe.rowW (Nat.le_refl _) (fun z hz => Wks.of (by rw [← hg1]; exact upRow (Nat.zero_add _)))) (.old rfl (BLe.refl _) (.old rfl (BLe.refl _) .nil)))))))⟩
        ((repeat' first | exact TLes.nil | refine TLes.cons (TLe.eq rfl) ?_); skip)
      · rw [if_neg (by rw [hb]; simp)] at hg1
        (repeat' (refine Zag ?_; conv => whnf))
        refine ⟨(), trivial, Weak.list [((1, 7, 0), .old (1, 7, 0), sBox f k1 k2 A.length nb), ((2, 7, 0), .old (2, 7, 0), setR A A.length), ((3, 7, 0), .old (3, 7, 0), rowS n nb f.regs.toNat vals), ((6, 7, 0), .old (6, 7, 0), .row false 1 1 (fun _ => [.rs (32, 0, 0) 1 0 f.regs.toNat])), ((32, 0, 0), .old (32, 0, 0), Zbd f.regs.toNat g1), ((5, 7, 0), .old (5, 7, 0), Zbd f.regs.toNat (fun q => be.getD q false)), ((13, 0, 0), .old (13, 0, 0), .row true 7 1 (fun _ => Za2 x))] rfl (by rfl) ?_ (.old rfl (BLe.rowO rfl) (.old rfl (BLe.refl _) (.old rfl (BLe_S rfl) (.old rfl (BLe.rowO rfl) (.old rfl (BLe.rowW (Nat.le_refl _) (fun z hz => Wks.of (by rw [← hg1]; rfl))) (.old rfl (BLe.refl _) (.old rfl (BLe.refl _) .nil)))))))⟩
        ((repeat' first | exact TLes.nil | refine TLes.cons (TLe.eq rfl) ?_); skip)
    rintro ⟨⟩ - τ hw
    refine Zaq hw ?_
    clear hw
    (repeat' first | refine Zad ?_ | (refine Zab tok (by rfl) ?_; conv => whnf))
    refine .inl ⟨_, _, _, uG (QC.fo (rd := []) hAk (Ress.imms rfl) (.inl rfl) rfl), ?_⟩
    conv => whnf
    (repeat' ((fail_if_success (show AWp _ _ _ (Code.region 25 _ _) _ _)); refine Zai ?_))
    refine Zao 111 (fun hl => ?_)
    have hle : ((Zbm x).length : Int) ≤ 9223372036854775807 := hl.2
    clear hl
    refine Zat (fun j : Nat => mkS [(6, .bp (6, 7, 0) 0), (13, .bp (13, 0, 0) 0), (110, .rs (110, 0, 0) 1 0 (Zbm x).length), (111, iv (Zbm x).length), (112, iv j)] [((1, 7, 0), sBox f k1 k2 A.length nb), ((2, 7, 0), setR A A.length), ((3, 7, 0), rowS n nb f.regs.toNat vals), ((6, 7, 0), .row false 1 1 (fun _ => [.rs (32, 0, 0) 1 0 f.regs.toNat])), ((32, 0, 0), Zbd f.regs.toNat (Zdf g1 ((Zbm x).take j))), ((5, 7, 0), Zbd f.regs.toNat (fun q => be.getD q false)), ((13, 0, 0), .row true 7 1 (fun _ => Za2 x)), ((110, 0, 0), .row true 1 (Zbm x).length (fun i => [iv ((Zbm x).getD i 0)]))]) (fun j => j ≤ (Zbm x).length) (fun j => (Zbm x).length - j) 0 (Nat.zero_le _) ?_ ?_
    · refine Weak.list [((1, 7, 0), .old (1, 7, 0), sBox f k1 k2 A.length nb), ((2, 7, 0), .old (2, 7, 0), setR A A.length), ((3, 7, 0), .old (3, 7, 0), rowS n nb f.regs.toNat vals), ((6, 7, 0), .old (6, 7, 0), .row false 1 1 (fun _ => [.rs (32, 0, 0) 1 0 f.regs.toNat])), ((32, 0, 0), .old (32, 0, 0), Zbd f.regs.toNat (Zdf g1 ((Zbm x).take 0))), ((5, 7, 0), .old (5, 7, 0), Zbd f.regs.toNat (fun q => be.getD q false)), ((13, 0, 0), .old (13, 0, 0), .row true 7 1 (fun _ => Za2 x)), ((110, 0, 0), .old (110, 0, 0), .row true 1 (Zbm x).length (fun i => [iv ((Zbm x).getD i 0)]))] rfl (by rfl) ?_ (.old rfl (BLe.rowO rfl) (.old rfl (BLe.refl _) (.old rfl (BLe_S rfl) (.old rfl (BLe.rowO rfl) (.old rfl (BLe.refl _) (.old rfl (BLe.refl _) (.old rfl (BLe.refl _) (.old rfl (BLe.refl _) .nil))))))))
      ((repeat' first | exact TLes.nil | refine TLes.cons (TLe.eq rfl) ?_); skip)
    intro j hj
    (repeat' ((fail_if_success (show AWp _ _ _ (Code.region 26 _ _) _ _)); first | refine Zad ?_ | (refine Zab tok (by rfl) ?_; conv => whnf) | refine Zai ?_ | (refine Zag ?_; conv => whnf) | (refine Zas ?_; conv => whnf) | refine Zaf rfl (fun hb => ?_) (fun hb => ?_)))
    · have hjl : j < (Zbm x).length := by simp only [decide_eq_true_eq] at hb; omega
      clear hb
      have hsucc := upAll_succ (g := g1) hjl
      have hpj := hxa _ (Zf7 0 hjl)
      have hji : (Zbm x).getD (0 + (j : Int).toNat) 0 = (Zbm x).getD j 0 := by simp
      ((repeat' first | (refine Zab tok (by rfl) ?_; conv => whnf) | (refine @And.intro (Zaa _ _ _ _) _ ?_ ?_; rotate_left; (conv => whnf); rotate_right)); all_goals (try ((guard_target = Zaa _ _ _ _); refine Zae ?_; (all_goals (try simp only [Zaa, kzz, kz11, kz12, maxL, Zac] at *)); all_goals omega)))
      refine ⟨j + 1, hjl, by omega, ?_⟩
      refine Weak.list [((1, 7, 0), .old (1, 7, 0), sBox f k1 k2 A.length nb), ((2, 7, 0), .old (2, 7, 0), setR A A.length), ((3, 7, 0), .old (3, 7, 0), rowS n nb f.regs.toNat vals), ((6, 7, 0), .old (6, 7, 0), .row false 1 1 (fun _ => [.rs (32, 0, 0) 1 0 f.regs.toNat])), ((32, 0, 0), .old (32, 0, 0), Zbd f.regs.toNat (Zdf g1 ((Zbm x).take (j + 1)))), ((5, 7, 0), .old (5, 7, 0), Zbd f.regs.toNat (fun q => be.getD q false)), ((13, 0, 0), .old (13, 0, 0), .row true 7 1 (fun _ => Za2 x)), ((110, 0, 0), .old (110, 0, 0), .row true 1 (Zbm x).length (fun i => [iv ((Zbm x).getD i 0)]))] rfl (by rfl) ?_ (.old rfl (BLe.rowO rfl) (.old rfl (BLe.refl _) (.old rfl (BLe_S rfl) (.old rfl (BLe.rowO rfl) (.old rfl (BLe.rowW (Nat.le_refl _) (fun z hz => Wks.of ?_)) (.old rfl (BLe.refl _) (.old rfl (BLe.refl _) (.old rfl (BLe.refl _) .nil))))))))
      · ((repeat' first | exact TLes.nil | refine TLes.cons (TLe.eq rfl) ?_ | refine TLes.cons (TLe.int ?_) ?_); (all_goals first | ((try (simp only [Zaa, kzz, kz11, kz12, maxL, Zac] at *)); exact wrap64 (by omega) (by omega)) | skip))
      · rw [hsucc]
        exact upRow (by rw [Nat.zero_add]; exact congrArg Int.toNat hji)
    · have hjl : j = (Zbm x).length := by simp only [decide_eq_false_iff_not] at hb; omega
      clear hb
      subst hjl
      refine ⟨lookT [], Weak.list (tl := []) [((1, 7, 0), .old (1, 7, 0), sBox f k1 k2 A.length nb), ((2, 7, 0), .old (2, 7, 0), setR A A.length), ((3, 7, 0), .old (3, 7, 0), rowS n nb f.regs.toNat vals), ((6, 7, 0), .old (6, 7, 0), .row false 1 1 (fun _ => [.rs (32, 0, 0) 1 0 f.regs.toNat])), ((32, 0, 0), .old (32, 0, 0), Zbd f.regs.toNat (gB (k + 1))), ((5, 7, 0), .old (5, 7, 0), Zbd f.regs.toNat (fun q => be.getD q false))] rfl (by rfl) .nil (.old rfl (BLe.rowO rfl) (.old rfl (BLe.refl _) (.old rfl (BLe_S rfl) (.old rfl (BLe.rowO rfl) (.old rfl (BLe.rowW (Nat.le_refl _) (fun z hz => Wks.of (by rw [hs1, List.take_length]; rfl))) (.old rfl (BLe.refl _) .nil))))))⟩
  · conv => whnf
    have hli2 : ∀ q, q < f.regs.toNat → [AV.bool (gB b.ins.length q)] = [AV.bool ((listB f.regs.toNat (gIns A f.regs.toNat f b)).getD q false)] := fun q hq => by rw [Zf3 hq, hgm]
    have hll2 := listB_len f.regs.toNat (gIns A f.regs.toNat f b)
    have hgen : ∃ now, listB f.regs.toNat (gIns A f.regs.toNat f b) = now := ⟨_, rfl⟩
    obtain ⟨now, hnow⟩ := hgen
    rw [hnow] at hli2 hll2 ⊢
    have hcall : ∀ y, y = A.getD n [] → FC Tryz.prog 82 [bools now, bools y] (.bool (decide (now = A.getD n []))) := fun y e => by rw [e]; exact c_EqualB _ _
    have hnA : n < A.length := by omega
    ((repeat' first | refine Zad ?_ | (refine Za0 tok mix (by rfl) ?_; conv => whnf) | (refine @And.intro (Zaa _ _ _ _) _ ?_ ?_; rotate_left; (conv => whnf); rotate_right)); all_goals (try ((guard_target = Zaa _ _ _ _); refine Zae ?_; (all_goals (try simp only [Zaa, kzz, kz11, kz12, maxL, Zac] at *)); all_goals omega)))
    refine .inl ⟨_, _, _, uG (QC.sc (rd := [(32, 0, 0)]) (hcall (A.getD (0 + (n : Int).toNat) []) (by simp)) (.cons (.row rfl (.head _) rfl hll2.symm hli2) (.cons (.imm rfl) .nil)) rfl), ?_⟩
    conv => whnf
    ((repeat' ((fail_if_success (show AWp _ _ _ (Code.region 31 _ _) _ _)); first | refine Zad ?_ | (refine Za0 tok mix (by rfl) ?_; conv => whnf) | (refine @And.intro (Zaa _ _ _ _) _ ?_ ?_; rotate_left; (conv => whnf); rotate_right))); all_goals (try ((guard_target = Zaa _ _ _ _); refine Zae ?_; (all_goals (try simp only [Zaa, kzz, kz11, kz12, maxL, Zac] at *)); all_goals omega)))
    refine Zaq (Weak.fam (tl := [(18, .bool (decide (now ≠ A.getD n [])))]) (hl := [((1, 7, 0), sBox f k1 k2 A.length nb), ((2, 7, 0), setR (A.set n now) A.length), ((3, 7, 0), rowS n nb f.regs.toNat vals), ((5, 7, 0), Zbd f.regs.toNat (fun q => be.getD q false))]) (F := noH) [] rfl (fun i hi => by cases hi) ?_ ?_ noF (hLp _ rfl rfl rfl)) ?_
    · exact .cons (.bool (by rw [decide_not])) .nil
    · refine .old rfl rfl (GB.one (.cons (.imm rfl) (.cons (.imm rfl) (.cons (.imm rfl) (.cons (.rs rfl rfl rfl rfl) (.cons (.rs rfl rfl rfl rfl) .nil))))) (fun e => by cases e)) (.old rfl rfl (GB.row (Nat.le_refl _) (fun q hq => GVs.upd (fun e => ?_) (fun e => ?_)) (fun _ _ _ => rfl)) (.old rfl rfl (GB.row (Nat.le_refl _) (fun q hq => .cons (GV_S rfl rfl) .nil) (fun e => by cases e)) (.old rfl rfl (GB.rowI (Nat.le_refl _) (fun q hq => ⟨rfl, rfl⟩)) .nil)))
      · rw [Nat.zero_add, Int.toNat_natCast] at e
        subst e
        rw [Zbj, if_pos ⟨rfl, hq⟩]
        exact .cons (.frz (hd_no rfl) rfl (Nat.le_of_eq (Nat.zero_add _)) hll2.symm (fun x hx => GVs.eqI rfl (by rw [Nat.zero_add]; exact hli2 x hx)) (fun _ _ => rfl)) .nil
      · rw [Nat.zero_add, Int.toNat_natCast] at e
        rw [Zbj, if_neg (fun h => e h.1.symm)]
        exact GVs.imm rfl
    (repeat' first | (refine Zab tok (by rfl) ?_; conv => whnf) | (refine Zah ?_; conv => whnf))
    exact ⟨_, [(k0, .old k0, sBox f k1 k2 A.length nb), (k1, .old k1, setR (A.set n now) A.length), (k2, .old k2, rowS n nb f.regs.toNat vals), (k5, .old k5, Zbd f.regs.toNat (fun q => be.getD q false))], rfl, rfl, rfl, rfl, .old rfl (BLe.rowO rfl) (.old rfl (BLe.refl _) (.old rfl (BLe_S rfl) (.old rfl (BLe.refl _) .nil))), .eq rfl⟩
end Go.Proofs.YtngcbpijejbibaaGreat
namespace Go.Proofs.YtngcbpijejbibaaGreat
open Go Dv
set_option maxRecDepth 10000
set_option linter.unusedSimpArgs false
abbrev SW := List (List Bool) × List (List Bool) × Bool
def sw1 (f : Func) (s : SW) (n : Nat) : SW := (s.1.set n (Zfz s.1 f.regs.toNat f n), s.2.1.set n (newBe s.1 f.regs.toNat f n), decide (Zfz s.1 f.regs.toNat f n ≠ s.1.getD n []) || s.2.2)
def swD (f : Func) (s : SW) : Nat → SW
  | 0 => s
  | m + 1 => sw1 f (swD f s m) (f.blocks.length - 1 - m)
def Ze3 (f : Func) : List (List Bool) := List.replicate f.blocks.length (List.replicate f.regs.toNat false)
def itS (f : Func) : Nat → SW
  | 0 => (Ze3 f, Ze3 f, true)
  | j + 1 => swD f ((itS f j).1, (itS f j).2.1, false) f.blocks.length
def gle (g g' : Nat → Bool) : Prop := ∀ q, g q = true → g' q = true
theorem gle_up {g g' : Nat → Bool} (h : gle g g') (p : Int) (v : Bool) : gle (upT g p v) (upT g' p v) := fun q e => by
  unfold upT at e ⊢
  split
  · rename_i hq; rw [if_pos hq] at e; exact e
  · rename_i hq; rw [if_neg hq] at e; exact h q e
theorem gle_all {l : List Int} : ∀ {g g' : Nat → Bool}, gle g g' → gle (Zdf g l) (Zdf g' l) := by
  induction l with
  | nil => intro g g' h; exact h
  | cons x r ih => intro g g' h; exact ih (gle_up h x true)
theorem gle_step {x : Ins} {g g' : Nat → Bool} (h : gle g g') : gle (Zcv x g) (Zcv x g') := by
  unfold Zcv
  refine gle_all ?_
  split
  · exact gle_up h _ _
  · exact h
theorem gle_mg {g g' : Nat → Bool} {a a' : List Bool} (h : gle g g') (k : leL a a') (but : Int) (p : Nat) : gle (mgF g a but p) (mgF g' a' but p) := fun q e => by
  unfold mgF at e ⊢
  split
  · rename_i hq
    rw [if_pos hq, Bool.or_eq_true, Bool.and_eq_true] at e
    rw [Bool.or_eq_true, Bool.and_eq_true]
    rcases e with e | ⟨e1, e2⟩
    · exact .inl (h q e)
    · exact .inr ⟨k q e1, e2⟩
  · rename_i hq; rw [if_neg hq] at e; exact h q e
def leA (A A' : List (List Bool)) : Prop := ∀ k, leL (A.getD k []) (A'.getD k [])
theorem gle_goals {A A' : List (List Bool)} (h : leA A A') (R : Nat) (b : Zby) (l : List Int) : gle (Zcp A R b l) (Zcp A' R b l) := by
  unfold Zcp
  have : ∀ (l : List Int) (g g' : Nat → Bool), gle g g' → gle (l.foldl (fun g k => mgF g (A.getD k.toNat []) (butOf b) R) g) (l.foldl (fun g k => mgF g (A'.getD k.toNat []) (butOf b) R) g') := by
    intro l
    induction l with
    | nil => intro g g' h; exact h
    | cons x r ih => intro g g' hg; exact ih _ _ (gle_mg hg (h _) _ _)
  exact this l _ _ (fun _ h => h)
theorem gle_pad {A A' : List (List Bool)} (h : leA A A') (R : Nat) (f : Func) (b : Zby) : gle (gPad A R f b) (gPad A' R f b) := by
  unfold gPad
  split
  · exact gle_mg (gle_goals h R b _) (h _) _ _
  · exact gle_goals h R b _
theorem gle_ins {A A' : List (List Bool)} (h : leA A A') (R : Nat) (f : Func) (b : Zby) : gle (gIns A R f b) (gIns A' R f b) := by
  unfold gIns
  have : ∀ (l : List Ins) (g g' : Nat → Bool), gle g g' → gle (l.foldr Zcv g) (l.foldr Zcv g') := by
    intro l
    induction l with
    | nil => intro g g' h; exact h
    | cons x r ih => intro g g' hg; exact gle_step (ih _ _ hg)
  exact this _ _ _ (gle_all (gle_pad h R f b))
theorem le_new {A A' : List (List Bool)} (h : leA A A') (R : Nat) (f : Func) (n : Nat) : leL (Zfz A R f n) (Zfz A' R f n) := fun q e => by
  have hq : q < R := by
    refine Classical.byContradiction fun hc => ?_
    rw [getD_ge (by unfold Zfz; rw [listB_len]; omega)] at e; cases e
  unfold Zfz at e ⊢
  rw [Zf3 hq] at e ⊢
  exact gle_ins h R f _ q e
def cntA (A : List (List Bool)) : Nat := (A.map cnt).sum
theorem cntA_le {R : Nat} : ∀ {A : List (List Bool)}, (∀ a ∈ A, a.length = R) → cntA A ≤ A.length * R
  | [], _ => by simp [cntA]
  | a :: r, h => by
      have h1 := cntA_le (A := r) (R := R) (fun x hx => h x (List.mem_cons_of_mem _ hx))
      have h2 := cnt_le (a := a)
      have h3 := h a (List.mem_cons_self ..)
      have h4 : cntA (a :: r) = cnt a + cntA r := by simp [cntA]
      rw [h4, List.length_cons, Nat.succ_mul]; omega
theorem cntA_set : ∀ {A : List (List Bool)} {n : Nat} {a : List Bool}, n < A.length → (A.getD n []).length = a.length → leL (A.getD n []) a → cntA A ≤ cntA (A.set n a) ∧ (cntA (A.set n a) ≤ cntA A → a = A.getD n [])
  | [], n, a, h, _, _ => by simp at h
  | x :: r, 0, a, _, hl, hle => by
      have hx : (x :: r).getD 0 [] = x := rfl
      rw [hx] at hl hle
      have := cnt_mono hl hle
      have e1 : cntA (x :: r) = cnt x + cntA r := by simp [cntA]
      have e2 : cntA ((x :: r).set 0 a) = cnt a + cntA r := by simp [cntA]
      rw [e1, e2]
      exact ⟨by omega, fun h => by rw [hx]; exact (this.2 (by omega)).symm⟩
  | x :: r, n + 1, a, h, hl, hle => by
      have hx : (x :: r).getD (n + 1) [] = r.getD n [] := by simp
      rw [hx] at hl hle
      have := cntA_set (A := r) (n := n) (a := a) (by simpa using h) hl hle
      have e1 : cntA (x :: r) = cnt x + cntA r := by simp [cntA]
      have e2 : cntA ((x :: r).set (n + 1) a) = cnt x + cntA (r.set n a) := by simp [cntA]
      rw [e1, e2]
      exact ⟨by omega, fun h => by rw [hx]; exact this.2 (by omega)⟩
structure GoodS (f : Func) (s : SW) : Prop where
  l1 : s.1.length = f.blocks.length
  l2 : s.2.1.length = f.blocks.length
  e1 : ∀ i, i < f.blocks.length → (s.1.getD i []).length = f.regs.toNat
  e2 : ∀ i, i < f.blocks.length → (s.2.1.getD i []).length = f.regs.toNat
  le : ∀ i, i < f.blocks.length → leL (s.1.getD i []) (Zfz s.1 f.regs.toNat f i)
theorem leA_set {A : List (List Bool)} {n : Nat} {a : List Bool} (h : leL (A.getD n []) a) : leA A (A.set n a) := fun k => by
  rw [Zbj]
  split
  · rename_i hk; rw [hk.1] at h; exact h
  · exact leL.refl _
theorem newAt_len (A : List (List Bool)) (R : Nat) (f : Func) (n : Nat) : (Zfz A R f n).length = R := listB_len _ _
theorem newBe_len (A : List (List Bool)) (R : Nat) (f : Func) (n : Nat) : (newBe A R f n).length = R := listB_len _ _
theorem sw1_good {f : Func} {s : SW} (h : GoodS f s) {n : Nat} (hn : n < f.blocks.length) : GoodS f (sw1 f s n) ∧ cntA s.1 ≤ cntA (sw1 f s n).1 ∧ ((sw1 f s n).2.2 = true → s.2.2 = true ∨ cntA s.1 < cntA (sw1 f s n).1) := by
  have hn1 : n < s.1.length := by rw [h.l1]; exact hn
  have hn2 : n < s.2.1.length := by rw [h.l2]; exact hn
  have hle := h.le n hn
  have hA := leA_set hle
  have hc := cntA_set hn1 (by rw [h.e1 n hn, newAt_len]) hle
  refine ⟨⟨?_, ?_, fun i hi => ?_, fun i hi => ?_, fun i hi => ?_⟩, hc.1, fun e => ?_⟩
  · simp only [sw1, List.length_set]; exact h.l1
  · simp only [sw1, List.length_set]; exact h.l2
  · simp only [sw1]; rw [Zbj]; split
    · exact newAt_len ..
    · exact h.e1 i hi
  · simp only [sw1]; rw [Zbj]; split
    · exact newBe_len ..
    · exact h.e2 i hi
  · simp only [sw1]
    refine leL.trans ?_ (le_new hA f.regs.toNat f i)
    rw [Zbj]; split
    · rename_i hk; rw [← hk.1]; exact leL.refl _
    · exact h.le i hi
  · simp only [sw1, Bool.or_eq_true, decide_eq_true_eq] at e ⊢
    rcases e with e | e
    · refine .inr ?_
      refine Nat.lt_of_not_le fun hc2 => e (hc.2 hc2)
    · exact .inl e
theorem swD_good {f : Func} {s : SW} (h : GoodS f s) : ∀ {m : Nat}, m ≤ f.blocks.length → GoodS f (swD f s m) ∧ cntA s.1 ≤ cntA (swD f s m).1 ∧ ((swD f s m).2.2 = true → s.2.2 = true ∨ cntA s.1 < cntA (swD f s m).1)
  | 0, _ => ⟨h, Nat.le_refl _, fun e => .inl e⟩
  | m + 1, hm => by
      obtain ⟨h1, h2, h3⟩ := swD_good h (m := m) (by omega)
      obtain ⟨k1, k2, k3⟩ := sw1_good h1 (n := f.blocks.length - 1 - m) (by omega)
      refine ⟨k1, Nat.le_trans h2 k2, fun e => ?_⟩
      rcases k3 e with e | e
      · rcases h3 e with e | e
        · exact .inl e
        · exact .inr (Nat.lt_of_lt_of_le e k2)
      · exact .inr (Nat.lt_of_le_of_lt h2 e)
theorem falses_at (f : Func) {i : Nat} (hi : i < f.blocks.length) : (Ze3 f).getD i [] = List.replicate f.regs.toNat false := by
  unfold Ze3; rw [List.getD_eq_getElem?_getD, List.getElem?_replicate, if_pos hi]; rfl
theorem init_good (f : Func) : GoodS f (Ze3 f, Ze3 f, true) := by
  refine ⟨by simp [Ze3], by simp [Ze3], fun i hi => ?_, fun i hi => ?_, fun i hi q e => ?_⟩
  · simp only; rw [falses_at f hi]; simp
  · simp only; rw [falses_at f hi]; simp
  · simp only at e; rw [falses_at f hi, List.getD_eq_getElem?_getD, List.getElem?_replicate] at e
    split at e <;> cases e
theorem GoodS.more {f : Func} {s : SW} (h : GoodS f s) (b : Bool) : GoodS f (s.1, s.2.1, b) := ⟨h.l1, h.l2, h.e1, h.e2, h.le⟩
theorem Zex (f : Func) : ∀ j, GoodS f (itS f j) ∧ ((itS f j).2.2 = true → (∀ i, i < j → (itS f i).2.2 = true) → j ≤ cntA (itS f j).1)
  | 0 => ⟨init_good f, fun _ _ => Nat.zero_le _⟩
  | j + 1 => by
      obtain ⟨h1, h2⟩ := Zex f j
      obtain ⟨k1, k2, k3⟩ := swD_good (h1.more false) (Nat.le_refl _)
      refine ⟨k1, fun e hi => ?_⟩
      have h3 := h2 (hi j (Nat.lt_succ_self j)) (fun i hij => hi i (by omega))
      rcases k3 e with e | e
      · cases e
      · exact Nat.lt_of_le_of_lt h3 e
theorem least_ex {p : Nat → Bool} : ∀ n, p n = false → ∃ J, p J = false ∧ ∀ j, j < J → p j = true := by
  intro n
  induction n using Nat.strongRecOn with
  | ind n ih =>
    intro h
    by_cases hc : ∃ j, j < n ∧ p j = false
    · obtain ⟨j, hj, e⟩ := hc
      exact ih j hj e
    · refine ⟨n, h, fun j hj => ?_⟩
      cases e : p j with
      | true => rfl
      | false => exact absurd ⟨j, hj, e⟩ hc
theorem it_stops (f : Func) : ∃ J, (itS f J).2.2 = false ∧ ∀ j, j < J → (itS f j).2.2 = true := by
  have : ∃ n, (itS f n).2.2 = false := by
    refine Classical.byContradiction fun hc => ?_
    have hall : ∀ n, (itS f n).2.2 = true := fun n => by
      cases e : (itS f n).2.2 with
      | true => rfl
      | false => exact absurd ⟨n, e⟩ hc
    have h1 := Zex f (f.blocks.length * f.regs.toNat + 1)
    have h2 := h1.2 (hall _) (fun i _ => hall i)
    have h3 := cntA_le (R := f.regs.toNat) (A := (itS f (f.blocks.length * f.regs.toNat + 1)).1) (fun a ha => by
      obtain ⟨i, hi, e⟩ := List.getElem_of_mem ha
      have := h1.1.e1 i (by rw [← h1.1.l1]; exact hi)
      rw [Zbq [] hi, e] at this; exact this)
    rw [h1.1.l1] at h3
    omega
  obtain ⟨n, hn⟩ := this
  exact least_ex (p := fun n => (itS f n).2.2) n hn
noncomputable def Zfi (f : Func) : Nat := Classical.choose (it_stops f)
theorem foundJ_no (f : Func) : (itS f (Zfi f)).2.2 = false := (Classical.choose_spec (it_stops f)).1
theorem foundJ_lt (f : Func) {j : Nat} (h : j < Zfi f) : (itS f j).2.2 = true := (Classical.choose_spec (it_stops f)).2 j h
noncomputable def foundA (f : Func) : List (List Bool) := if Zdy f = true then (itS f (Zfi f)).1 else []
noncomputable def Zbs (f : Func) : List (List Bool) := if Zdy f = true then (itS f (Zfi f)).2.1 else []
theorem set_same {A : List (List Bool)} {n : Nat} : A.set n (A.getD n []) = A := by
  induction A generalizing n with
  | nil => rfl
  | cons x r ih => cases n with
    | zero => rfl
    | succ n => simp only [List.set_cons_succ, List.getD_cons_succ]; rw [ih]
theorem swD_fix {f : Func} {s : SW} (h : GoodS f s) : ∀ {m : Nat}, m ≤ f.blocks.length → (swD f s m).2.2 = false → (swD f s m).1 = s.1 ∧ s.2.2 = false ∧ ∀ n, f.blocks.length - m ≤ n → n < f.blocks.length → Zfz s.1 f.regs.toNat f n = s.1.getD n [] ∧ (swD f s m).2.1.getD n [] = newBe s.1 f.regs.toNat f n
  | 0, _, e => ⟨rfl, e, fun n h1 h2 => by omega⟩
  | m + 1, hm, e => by
      have hg := (swD_good h (m := m) (by omega)).1
      simp only [swD, sw1, Bool.or_eq_false_iff, decide_eq_false_iff_not, Decidable.not_not] at e ⊢
      obtain ⟨e1, e2⟩ := e
      obtain ⟨h1, h2, h3⟩ := swD_fix h (m := m) (by omega) e2
      rw [e1, set_same, h1]
      rw [h1] at e1
      refine ⟨rfl, h2, fun n hn1 hn2 => ?_⟩
      rw [Zbj]
      by_cases hc : f.blocks.length - 1 - m = n
      · subst hc
        refine ⟨e1, ?_⟩
        rw [if_pos ⟨rfl, by rw [hg.l2]; omega⟩]
      · rw [if_neg (fun h => hc h.1)]
        exact h3 n (by omega) hn2
structure FixP (f : Func) (A B : List (List Bool)) : Prop where
  l1 : A.length = f.blocks.length
  l2 : B.length = f.blocks.length
  e1 : ∀ i, i < f.blocks.length → (A.getD i []).length = f.regs.toNat
  e2 : ∀ i, i < f.blocks.length → (B.getD i []).length = f.regs.toNat
  at_ : ∀ n, n < f.blocks.length → Zfz A f.regs.toNat f n = A.getD n []
  be : ∀ n, n < f.blocks.length → B.getD n [] = newBe A f.regs.toNat f n
theorem found_fix {f : Func} (h : Zdy f = true) : FixP f (foundA f) (Zbs f) := by
  unfold foundA Zbs
  rw [if_pos h, if_pos h]
  have hno := foundJ_no f
  have hg := (Zex f (Zfi f)).1
  cases hj : Zfi f with
  | zero => rw [hj] at hno; cases hno
  | succ j =>
    rw [hj] at hno hg
    have hgj := (Zex f j).1.more false
    obtain ⟨h1, _, h3⟩ := swD_fix hgj (Nat.le_refl _) hno
    refine ⟨hg.l1, hg.l2, hg.e1, hg.e2, fun n hn => ?_, fun n hn => ?_⟩
    · have := (h3 n (by omega) hn).1
      have e : (itS f (j + 1)).1 = (itS f j).1 := h1
      rw [e]; exact this
    · have := (h3 n (by omega) hn).2
      have e : (itS f (j + 1)).1 = (itS f j).1 := h1
      rw [e]; exact this
theorem found_no {f : Func} (h : Zdy f = false) : foundA f = [] ∧ Zbs f = [] := by
  unfold foundA Zbs; rw [if_neg (by rw [h]; simp), if_neg (by rw [h]; simp)]; exact ⟨rfl, rfl⟩
end Go.Proofs.YtngcbpijejbibaaGreat
namespace Go.Proofs.YtngcbpijejbibaaGreat
open Go Dv
set_option maxRecDepth 10000
set_option linter.unusedSimpArgs false
theorem whole_ok {f : Func} (h : Zdy f = true) : ∃ ps : List Int, Zdo (parM ps) f = true := by
  unfold Zdy at h
  split at h
  · cases h
  · exact ⟨_, h⟩
theorem whole_fun {f : Func} (h : Zdy f = true) : 0 ≤ f.regs ∧ f.regs ≤ 256 ∧ f.blocks.length ≤ 64 := by
  obtain ⟨ps, hp⟩ := whole_ok h
  unfold Zdo at hp
  rw [Bool.and_eq_true, decide_eq_true_eq] at hp
  have := hp.1
  unfold FunP at this
  omega
abbrev falR (f : Func) (n : Nat) : Zam := .row true 1 n (fun _ => [bools (List.replicate f.regs.toNat false)])
theorem GVs_appK {src : Dv.Id → Option Dv.Id} {h h' : Zap} {k q : Nat} {f g : Nat → List AV} {ys : List AV} {K : List AV → List AV} (hq : q < k + 1) (h1 : q < k → GVs src h h' (K (f q)) ys) (h2 : q = k → GVs src h h' (K (g 0)) ys) : GVs src h h' (K (appR k f g q)) ys := by
  by_cases e : q < k
  · have : appR k f g q = f q := by unfold appR; rw [show Nat.blt q k = true from by rw [Nat.blt_eq]; exact e]; rfl
    rw [this]; exact h1 e
  · have e2 : q = k := by omega
    subst e2
    have : appR q f g q = g 0 := by unfold appR; rw [show Nat.blt q q = false from by rw [Bool.eq_false_iff]; intro h; rw [Nat.blt_eq] at h; omega, Nat.sub_self]; rfl
    rw [this]; exact h2 rfl
end Go.Proofs.YtngcbpijejbibaaGreat
namespace Go.Proofs.YtngcbpijejbibaaGreat
open Go Dv
set_option maxRecDepth 10000
set_option linter.unusedSimpArgs false
def famB (n R : Nat) (g : Nat → Nat → Bool) : Zap := famC 1002 (fun p q => bif Nat.blt p n && Nat.beq q 0 then some (Zbd R (g p)) else none)
abbrev rowB (n R : Nat) : Zam := .row false 1 n (fun q => [.rs (1002, q, 0) 1 0 R])
def atB (B : List (List Bool)) (p x : Nat) : Bool := (B.getD p []).getD x false
theorem famB_some {n R : Nat} {g : Nat → Nat → Bool} {j : Dv.Id} {b : Zam} (h : famB n R g j = some b) : ∃ p, j = (1002, p, 0) ∧ p < n ∧ b = Zbd R (g p) := by
  obtain ⟨p, q, rfl, h2⟩ := famC_some h
  cases e : (Nat.blt p n && Nat.beq q 0) with
  | false => rw [e] at h2; cases h2
  | true =>
    rw [e] at h2
    rw [Bool.and_eq_true, Nat.blt_eq] at e
    have := Nat.eq_of_beq_eq_true e.2
    subst this
    exact ⟨p, rfl, e.1, (Option.some.inj h2).symm⟩
theorem Zcf {n R p : Nat} {g : Nat → Nat → Bool} (h : p < n) : famB n R g (1002, p, 0) = some (Zbd R (g p)) := by
  show (bif Nat.blt p n && Nat.beq 0 0 then _ else none) = _
  rw [show Nat.blt p n = true from by rw [Nat.blt_eq]; exact h]; rfl
theorem keepB {src : Dv.Id → Option Dv.Id} {h h' : Zap} {n R : Nat} {g : Nat → Nat → Bool} (h1 : ∀ p, p < n → ∃ i imm m f0, src (1002, p, 0) = some i ∧ h i = some (.row imm 1 m f0) ∧ R ≤ m ∧ ∀ x, x < R → Zb1 (f0 x) = true ∧ f0 x = [.bool (g p x)]) : ∀ j b, famB n R g j = some b → HOk src h h' j b := by
  intro j b e
  obtain ⟨p, rfl, hp, rfl⟩ := famB_some e
  obtain ⟨i, imm, m, f0, e1, e2, e3, e4⟩ := h1 p hp
  exact HOk.mk e1 e2 (GB.rowI e3 e4)
theorem keepB0 {src : Dv.Id → Option Dv.Id} {h h' : Zap} {n R : Nat} {g : Nat → Nat → Bool} (hs : ∀ p, src (1002, p, 0) = some (1002, p, 0)) (hh : ∀ p, h (1002, p, 0) = famB n R g (1002, p, 0)) : ∀ j b, famB n R g j = some b → HOk src h h' j b :=
  keepB (fun p hp => ⟨(1002, p, 0), _, _, _, hs p, (hh p).trans (Zcf hp), Nat.le_refl _, fun _ _ => ⟨rfl, rfl⟩⟩)
theorem srcK_eq {k : Nat} {o : Option Dv.Id} : srcL [((1002, k, 0), o)] (1002, k, 0) = o := by
  show (bif idEq (1002, k, 0) (1002, k, 0) then _ else _) = _
  rw [Zbb.2 rfl]; rfl
theorem srcK_ne {k q : Nat} {o : Option Dv.Id} (h : q ≠ k) : srcL [((1002, k, 0), o)] (1002, q, 0) = some (1002, q, 0) := by
  show (bif idEq (1002, k, 0) (1002, q, 0) then _ else _) = _
  rw [Zbi.2 (fun e => h (congrArg (fun x => x.2.1) e).symm)]; rfl
theorem leaveL {h : Zap} {hl : List (Dv.Id × Zam)} {F : Zap} (S : List (Dv.Id × Option Dv.Id)) (hn : Zco (tgts S) = true) (hf : ∀ i ∈ tgts S, orH (Zbg hl) F i = none ∨ i ∈ S.map (·.1)) (hh : HLs (srcL S) h (orH (Zbg hl) F) hl)
    (hF : ∀ j b, F j = some b → HOk (srcL S) h (orH (Zbg hl) F) j b) :
    (∀ j j' i, (orH (Zbg hl) F j).isSome = true → (orH (Zbg hl) F j').isSome = true → srcL S j = some i → srcL S j' = some i → j = j') ∧ ∀ j b, orH (Zbg hl) F j = some b → HOk (srcL S) h (orH (Zbg hl) F) j b :=
  ⟨srcL_inj hn hf, fun j b e => by
    rcases orH_some e with e1 | ⟨_, e1⟩
    · exact hh.spec e1
    · exact hF j b e1⟩
theorem look_pull {a b : Dv.Id × Zam} {r : List (Dv.Id × Zam)} {i : Dv.Id} {X : Zam} (ha : idEq a.1 i = false) (hb : idEq b.1 i = false) : Zbg (a :: b :: (i, X) :: r) = updH (Zbg (a :: b :: r)) i (some X) := by
  funext j
  simp only [Zbg, updH]
  by_cases e : j = i
  · subst e
    rw [ha, hb, Zbb.2 rfl]; rfl
  · rw [Zbi.2 e, Zbi.2 (Ne.symm e)]; rfl
theorem QH.cast {P : Program} {h : Zap} {f : FuncId} {args : List AV} {dead : List Dv.Id} {u u' : Zap} {r : AV} (e : u = u') (hq : QH P h f args dead u r) : QH P h f args dead u' r := e ▸ hq
theorem ng_box {X : Nat → Prop} {ι : Zaj} {w : World} {h : Zap} {vals : List Value} {y : AV} {i ia ib : Dv.Id} {na nb : Nat} {f : Func} (s : Sim X h ι w) (hb : h i = some (sBox f ia ib na nb)) (hV : Vs w (Own X ι) [.bp i 0, y] ι vals) : ι ib ≠ some .ghost := by
  simp only [Vs] at hV
  obtain ⟨v, r, _, h1, _⟩ := hV
  simp only [V] at h1
  cases e : ι i with
  | none => rw [e] at h1; exact h1.elim
  | some l =>
    cases l with
    | nil => rw [e] at h1; exact h1.elim
    | ghost => rw [e] at h1; exact h1.elim
    | «at» b c =>
      have := s.rel _ _ _ hb e
      simp only [BRel] at this
      obtain ⟨arr, T, _, _, _, h4⟩ := this
      have h5 := (h4 0 Nat.zero_lt_one).2
      simp only [sCells, Vc, cond_false] at h5
      obtain ⟨_, _, _, _, ⟨v, _, _, h6⟩, _⟩ := h5
      simp only [V] at h6
      intro e2; rw [e2] at h6; exact h6
abbrev u3 : Dv.Id := (903, 0, 0)
abbrev u4 : Dv.Id := (904, 0, 0)
abbrev u5 : Dv.Id := (905, 0, 0)
noncomputable abbrev fndH (f : Func) : Zap := orH (Zbg [(u5, sBox f u4 u3 (foundA f).length (Zbs f).length), (u4, setR (foundA f) (foundA f).length), (u3, rowB (Zbs f).length f.regs.toNat)]) (famB (Zbs f).length f.regs.toNat (atB (Zbs f)))
theorem bigH_atX {dead : List Dv.Id} {u h : Zap} {j : Dv.Id} {b : Zam} (e : u j = some b) : bigH dead u h j = some b := by unfold bigH; rw [e]
theorem lookNX {hl : List (Dv.Id × Zam)} {F : Zap} {i : Dv.Id} (h : (orH (Zbg hl) F i).isSome = true) : i ∈ hl.map (·.1) ∨ (F i).isSome = true := by
  unfold orH at h
  induction hl with
  | nil => exact .inr h
  | cons p r ih =>
    obtain ⟨k, b⟩ := p
    simp only [Zbg] at h
    cases e : idEq k i with
    | true => have := Zbb.1 e; subst this; exact .inl (by simp)
    | false =>
      rw [e] at h
      rcases ih h with h1 | h1
      · exact .inl (by simp only [List.map_cons, List.mem_cons]; exact .inr h1)
      · exact .inr h1
theorem BLe_S2 {ρ : Dv.Id → Option Dv.Id} (n nb m : Nat) (vals : Nat → Value) {i : Dv.Id} (h : ρ k5 = some i) : BLe (Dv.mapB ρ (rowS n nb m vals)) (.row false 1 nb (fun q => [bif Nat.beq q n then .rs i 1 0 m else .is (vals q)])) := by
  have : Dv.mapB ρ (rowS n nb m vals) = .row false 1 nb (fun q => [bif Nat.beq q n then .rs i 1 0 m else .is (vals q)]) := by
    unfold rowS Dv.mapB
    simp only [cond_false]
    congr 1
    funext q
    show [Zbh ρ (bif Nat.beq q n then .rs k5 1 0 m else .is (vals q))] = _
    cases Nat.beq q n
    · rfl
    · show [Zbh ρ (.rs k5 1 0 m)] = _
      simp only [Zbh, h]; rfl
  rw [this]; exact BLe.refl _
set_option maxHeartbeats 4000000 in
theorem c_foundX (f : Func) : HF Tryz.prog 37 [.agg (Za1 f)] (.bp u5 0) (fndH f) := by
  refine HF_intro tok Tryz.func37 rfl (by decide +kernel) (Nat.le_of_ble_eq_true rfl) ?_
  have hmx : maxL = 4294967296 := rfl
  (repeat' ((fail_if_success (show AWp _ _ _ (Code.region 2 _ _) _ _)); first | refine Zad ?_ | (refine Zab tok (by rfl) ?_; conv => whnf)))
  refine Zab tok (by rfl) ?_
  conv => whnf
  refine .inl ⟨_, _, _, uG (QC.fc (c_whole f) rfl), ?_⟩
  conv => whnf
  refine Zaf rfl (fun hb => ?_) (fun hb => ?_)
  · have hw : Zdy f = false := by simpa using hb
    obtain ⟨e1, e2⟩ := found_no hw
    (repeat' first | refine Zad ?_ | (refine Zab tok (by rfl) ?_; conv => whnf) | (refine Zah ?_; conv => whnf))
    unfold fndH
    rw [e1, e2]
    refine ⟨_, srcL [(u5, some (8, 0, 0)), (u4, none), (u3, none)], rfl, ?_⟩
    rw [← and_assoc]
    exact ⟨leaveL [(u5, some (8, 0, 0)), (u4, none), (u3, none)] rfl (fun c hc => by simp only [tgts, List.mem_singleton] at hc; subst hc; exact .inl rfl)
      (.old rfl rfl (GB.one (.cons (.imm rfl) (.cons (.imm rfl) (.cons (.imm rfl) (.cons (.nil rfl rfl rfl) (.cons (.nil rfl rfl rfl) .nil))))) (fun e => by cases e)) (.new rfl (.new rfl .nil))) (keepB (fun p hp => absurd hp (Nat.not_lt_zero p))), .bp rfl rfl⟩
  have hw : Zdy f = true := by simpa using hb
  clear hb
  obtain ⟨hr0, hr2, hfb⟩ := whole_fun hw
  refine (Zag ?_)
  conv => whnf
  (repeat' ((fail_if_success (show AWp _ _ _ (Code.region 5 _ _) _ _)); first | refine Zad ?_ | (refine Zab tok (by rfl) ?_; conv => whnf) | refine Zai ?_))
  have falAt : ∀ x, [AV.bool false] = [AV.bool ((List.replicate f.regs.toNat false).getD x false)] := fun x => by
    rw [List.getD_eq_getElem?_getD, List.getElem?_replicate]; split <;> rfl
  refine Zat (fun k : Nat => mkF [(1, .bp (1, 0, 0) 0), (2, .np), (3, .bp (8, 0, 0) 0), (15, iv f.blocks.length), (16, iv k)] [((1, 0, 0), Zak (Za1 f)), ((8, 0, 0), sBox f (101, 0, 0) (102, 0, 0) k k), ((101, 0, 0), falR f k), ((102, 0, 0), rowB k f.regs.toNat)] (famB k f.regs.toNat (fun _ _ => false))) (fun k => k ≤ f.blocks.length) (fun k => f.blocks.length - k) 0 (Nat.zero_le _) ?_ ?_
  · refine Weak.fam [((101, 0, 0), none), ((102, 0, 0), none)] rfl (fun i hi => by cases hi) ?_ ?_ (keepB (fun p hp => absurd hp (Nat.not_lt_zero p))) (fun i hi => by cases hi)
    · (repeat' first | exact TLg.nil | refine TLg.cons (GV.imm rfl) ?_ | refine TLg.cons (GV.bp rfl rfl) ?_)
      all_goals rfl
    · exact .old rfl rfl (GB.one (GVs.imm rfl) (fun _ => rfl)) (.old rfl rfl (GB.one (.cons (.imm rfl) (.cons (.imm rfl) (.cons (.imm rfl) (.cons (.nil rfl rfl rfl) (.cons (.nil rfl rfl rfl) .nil))))) (fun e => by cases e)) (.new rfl (.new rfl .nil)))
  intro k hk
  (repeat' ((fail_if_success (show AWp _ _ _ (Code.region 6 _ _) _ _)); first | refine Zad ?_ | (refine Zab tok (by rfl) ?_; conv => whnf) | refine Zai ?_ | (refine Zag ?_; conv => whnf) | (refine Zas ?_; conv => whnf) | refine Zaf rfl (fun hb => ?_) (fun hb => ?_)))
  refine AWp_soft tok mix (by rfl) [0, 1, 2, 3, 4, 5, 6, 7, 11, 12, 13, 14, 15, 16] 20 (by rfl) (by rfl) (by rfl) ?_
  conv => whnf
  repeat' first
    | (refine @And.intro (Zaa _ _ _ _) _ ?_ ?_; rotate_left; (conv => whnf); rotate_right)
    | (guard_target = And _ _; refine @And.intro (gOp _ _ _ _ _ _ _ _ _) _ (by (conv => whnf); exact ⟨rfl, rfl⟩) ?_; conv => whnf)
    | (guard_target = And _ _; refine And.intro ?_ ?_ <;> (conv => whnf))
  all_goals (try ((guard_target = Zaa _ _ _ _); refine Zae ?_; (first | refine And.intro (Zdh rfl ?_) ?_ | skip); (all_goals (try simp only [Zaa, kzz, kz11, kz12, maxL, Zac] at *)); all_goals omega))
  rotate_right
  · have hkl : k = f.blocks.length := by simp only [decide_eq_false_iff_not] at hb; omega
    clear hb
    subst hkl
    obtain ⟨ps, hfun⟩ := whole_ok hw
    skip
    refine Zat (fun j : Nat => mkF [(1, .bp (1, 0, 0) 0), (2, .np), (3, .bp (8, 0, 0) 0), (4, .bool (itS f j).2.2)] [((1, 0, 0), Zak (Za1 f)), ((8, 0, 0), sBox f (101, 0, 0) (102, 0, 0) f.blocks.length f.blocks.length), ((101, 0, 0), setR (itS f j).1 f.blocks.length), ((102, 0, 0), rowB f.blocks.length f.regs.toNat)] (famB f.blocks.length f.regs.toNat (atB (itS f j).2.1))) (fun j => j ≤ Zfi f) (fun j => Zfi f - j) 0 (Nat.zero_le _) ?_ ?_
    · refine Weak.fam [] rfl (fun i hi => by cases hi) ?_ ?_ (keepB (fun p hp => ⟨(1002, p, 0), true, f.regs.toNat, fun x => [.bool false], rfl, (show famB f.blocks.length f.regs.toNat (fun _ _ => false) (1002, p, 0) = _ from Zcf hp), Nat.le_refl _, fun x hx => ⟨rfl, ?_⟩⟩)) (fun i hi => by cases hi)
      · (repeat' first | exact TLg.nil | refine TLg.cons (GV.imm rfl) ?_ | refine TLg.cons (GV.bp rfl rfl) ?_)
        all_goals rfl
      · refine .old rfl rfl (GB.one (GVs.imm rfl) (fun _ => rfl)) (.old rfl rfl (GB.one (.cons (.imm rfl) (.cons (.imm rfl) (.cons (.imm rfl) (.cons (.rs rfl rfl rfl rfl) (.cons (.rs rfl rfl rfl rfl) .nil))))) (fun e => by cases e)) (.old rfl rfl (GB.rowI (Nat.le_refl _) (fun q hq => ⟨rfl, ?_⟩)) (.old rfl rfl (GB.row (Nat.le_refl _) (fun q hq => .cons (.rs (Zcf hq) rfl rfl rfl) .nil) (fun e => by cases e)) .nil)))
        rw [show (itS f 0).1 = Ze3 f from rfl, falses_at f hq]
      · unfold atB; rw [show (itS f 0).2.1 = Ze3 f from rfl, falses_at f hp]
        exact falAt x
    intro j hj
    (repeat' ((fail_if_success (show AWp _ _ _ (Code.region 10 _ _) _ _)); first | refine Zad ?_ | (refine Zab tok (by rfl) ?_; conv => whnf) | refine Zai ?_ | (refine Zag ?_; conv => whnf) | (refine Zas ?_; conv => whnf) | (refine Zah ?_; conv => whnf) | refine Zaf rfl (fun hb => ?_) (fun hb => ?_)))
    · have hjl : j < Zfi f := by
        rcases Nat.lt_or_ge j (Zfi f) with h | h
        · exact h
        · have : j = Zfi f := by omega
          rw [this, foundJ_no] at hb; cases hb
      clear hb
      have hg := (Zex f j).1.more false
      (repeat' ((fail_if_success (show AWp _ _ _ (Code.region 12 _ _) _ _)); first | refine Zad ?_ | (refine Zab tok (by rfl) ?_; conv => whnf) | refine Zai ?_))
      refine Zat (fun m : Nat => mkF [(1, .bp (1, 0, 0) 0), (2, .np), (3, .bp (8, 0, 0) 0), (4, .bool (Prod.snd (Prod.snd (swD f ((itS f j).1, (itS f j).2.1, false) m)))), (5, iv ((f.blocks.length : Int) - 1 - ((m : Nat) : Int)))] [((1, 0, 0), Zak (Za1 f)), ((8, 0, 0), sBox f (101, 0, 0) (102, 0, 0) f.blocks.length f.blocks.length), ((101, 0, 0), setR (Prod.fst (swD f ((itS f j).1, (itS f j).2.1, false) m)) f.blocks.length), ((102, 0, 0), rowB f.blocks.length f.regs.toNat)] (famB f.blocks.length f.regs.toNat (atB (Prod.fst (Prod.snd (swD f ((itS f j).1, (itS f j).2.1, false) m)))))) (fun m => m ≤ f.blocks.length) (fun m => f.blocks.length - m) 0 (Nat.zero_le _) ?_ ?_
      · refine Weak.fam [] rfl (fun i hi => by cases hi) ?_ ?_ (keepB0 (fun _ => rfl) (fun _ => rfl)) (fun i hi => by cases hi)
        · (repeat' first | exact TLg.nil | refine TLg.cons (GV.imm rfl) ?_ | refine TLg.cons (GV.bp rfl rfl) ?_ | refine TLg.cons (GV.int ?_) ?_)
          all_goals first | rfl | (simp (disch := omega) only [wrap64]; omega)
        · exact .old rfl rfl (GB.one (GVs.imm rfl) (fun _ => rfl)) (.old rfl rfl (GB.one (.cons (.imm rfl) (.cons (.imm rfl) (.cons (.imm rfl) (.cons (.rs rfl rfl rfl rfl) (.cons (.rs rfl rfl rfl rfl) .nil))))) (fun e => by cases e)) (.old rfl rfl (GB.rowI (Nat.le_refl _) (fun q hq => ⟨rfl, rfl⟩)) (.old rfl rfl (GB.row (Nat.le_refl _) (fun q hq => .cons (.rs (Zcf hq) rfl rfl rfl) .nil) (fun e => by cases e)) .nil)))
      intro m hm
      (repeat' ((fail_if_success (show AWp _ _ _ (Code.region 14 _ _) _ _)); first | refine Zad ?_ | (refine Zab tok (by rfl) ?_; conv => whnf) | refine Zai ?_ | (refine Zag ?_; conv => whnf) | (refine Zas ?_; conv => whnf) | refine Zaf rfl (fun hb => ?_) (fun hb => ?_)))
      · have hml : m < f.blocks.length := by simp only [decide_eq_true_eq] at hb; omega
        clear hb
        have hgen : ∃ n : Nat, n = f.blocks.length - 1 - m := ⟨_, rfl⟩
        obtain ⟨n, hn⟩ := hgen
        have hni : (f.blocks.length : Int) - 1 - (m : Int) = (n : Int) := by omega
        have hg2 := (swD_good hg (m := m) (by omega)).1
        have hsucc : swD f ((itS f j).1, (itS f j).2.1, false) (m + 1) = sw1 f (swD f ((itS f j).1, (itS f j).2.1, false) m) n := by rw [hn]; rfl
        have hgen : ∃ s : SW, swD f ((itS f j).1, (itS f j).2.1, false) m = s := ⟨_, rfl⟩
        obtain ⟨s, hs⟩ := hgen
        simp only [hs] at hg2 hsucc ⊢
        have hgen : ∃ be, newBe s.1 f.regs.toNat f n = be := ⟨_, rfl⟩
        obtain ⟨be, hbe⟩ := hgen
        have hcall : ∀ (vals : Nat → Value) y, y = (n : Int) → HC Tryz.prog [k0, k1, k2] 60 [(k0, sBox f k1 k2 f.blocks.length f.blocks.length), (k1, setR s.1 f.blocks.length), (k2, rowX (fun q => .is (vals q)) f.blocks.length)] [.bp k0 0, iv y] (.bool (decide (Zfz s.1 f.regs.toNat f n ≠ s.1.getD n [])))
            [(k0, sBox f k1 k2 f.blocks.length f.blocks.length), (k1, setR (s.1.set n (Zfz s.1 f.regs.toNat f n)) f.blocks.length), (k2, rowS n f.blocks.length f.regs.toNat vals), (k5, Zbd f.regs.toNat (fun q => be.getD q false))] := fun vals y e => by
          have := c_overX f n s.1 vals f.blocks.length hr0 hr2 ⟨hg2.l1, fun i hi => by rw [hg2.e1 i (by rw [← hg2.l1]; exact hi)]; omega⟩ rfl (by omega) hfb (okL hfun (by omega))
          rw [hg2.l1, hbe] at this
          rw [e]; exact this
        have hnB : n < s.2.1.length := by have := hg2.l2; omega
        have hB1 : ∀ x, atB (sw1 f s n).2.1 n x = be.getD x false := fun x => by
          have e : (sw1 f s n).2.1 = s.2.1.set n be := by rw [← hbe]; rfl
          unfold atB; rw [e, Zbj, if_pos ⟨rfl, hnB⟩]
        have hB2 : ∀ p x, p ≠ n → atB (sw1 f s n).2.1 p x = atB s.2.1 p x := fun p x hp => by
          have e : (sw1 f s n).2.1 = s.2.1.set n be := by rw [← hbe]; rfl
          unfold atB; rw [e, Zbj, if_neg (fun h => hp h.1.symm)]
        by_cases hc : Zfz s.1 f.regs.toNat f n = s.1.getD n []
        · refine Zgc tok (fun j => bif Nat.beq j 3 then some false else none) (by rfl) ?_
          conv => whnf
          refine .inr ⟨_, _, _, uG (QH.opq (i := (102, 0, 0)) (imm := false) (n := f.blocks.length) (n' := f.blocks.length) (imm' := false) (y := fun q => .rs (1002, q, 0) 1 0 f.regs.toNat) (z := fun _ => .rs (54, 0, 0) 1 0 f.regs.toNat) (sel := fun q => Nat.beq q n) (ups0 := Zbg [((8, 0, 0), sBox f (101, 0, 0) (102, 0, 0) f.blocks.length f.blocks.length), ((101, 0, 0), setR (s.1.set n (Zfz s.1 f.regs.toNat f n)) f.blocks.length), ((54, 0, 0), Zbd f.regs.toNat (fun q => be.getD q false))]) rfl (fun X ι w vals hs hV => ng_box hs rfl hV)
            (fun vals => QH.cast (look_pull rfl rfl) (QH.of (dead := []) [(k0, .old (8, 0, 0), sBox f k1 k2 f.blocks.length f.blocks.length), (k1, .old (101, 0, 0), setR s.1 f.blocks.length), (k2, .old (102, 0, 0), rowX (fun q => .is (vals q)) f.blocks.length)] (hcall vals _ hni) rfl (.old rfl (BLe.rowO rfl) (.old rfl (BLe.refl _) (.old rfl (BLe.refl _) .nil))) (.cons (.eq rfl) (.cons (.eq rfl) .nil)) [(k0, (8, 0, 0)), (k1, (101, 0, 0)), (k2, (102, 0, 0)), (k5, (54, 0, 0))] rfl (.cons rfl (BLe.rowO rfl) (.cons rfl (BLe.refl _) (.cons rfl (BLe_S2 n _ f.regs.toNat vals rfl) (.cons rfl (BLe.refl _) .nil)))) rfl)) (Nat.le_refl _)), ?_⟩
          conv => whnf
          refine ⟨by rw [decide_eq_false (fun h => h hc)], ?_⟩
          conv => whnf
          (repeat' (refine Zab tok (by rfl) ?_; conv => whnf))
          refine ⟨m + 1, hml, by omega, ?_⟩
          show Weak _ _ _ (mkF [(1, .bp (1, 0, 0) 0), (2, .np), (3, .bp (8, 0, 0) 0), (4, .bool (Prod.snd (Prod.snd (swD f ((itS f j).1, (itS f j).2.1, false) (m + 1))))), (5, iv ((f.blocks.length : Int) - 1 - (((m + 1) : Nat) : Int)))] [((1, 0, 0), Zak (Za1 f)), ((8, 0, 0), sBox f (101, 0, 0) (102, 0, 0) f.blocks.length f.blocks.length), ((101, 0, 0), setR (Prod.fst (swD f ((itS f j).1, (itS f j).2.1, false) (m + 1))) f.blocks.length), ((102, 0, 0), rowB f.blocks.length f.regs.toNat)] (famB f.blocks.length f.regs.toNat (atB (Prod.fst (Prod.snd (swD f ((itS f j).1, (itS f j).2.1, false) (m + 1)))))))
          rw [hsucc]
          refine Weak.fam [((1002, n, 0), some (54, 0, 0))] rfl (fun c hc => by simp only [tgts, List.mem_singleton] at hc; subst hc; exact .inl rfl) ?_ ?_ (keepB (fun p hp => ?_)) (fun i hi => by cases hi)
          · (repeat' first | exact TLg.nil | refine TLg.cons (GV.imm rfl) ?_ | refine TLg.cons (GV.bp rfl rfl) ?_ | refine TLg.cons (GV.int ?_) ?_ | refine TLg.cons (GV.bool ?_) ?_)
            all_goals first | rfl | (simp (disch := omega) only [wrap64]; omega) | skip
            · simp only [sw1, cond_false]; rw [decide_eq_false (fun h => h hc)]; rfl
          · refine .old rfl rfl (GB.one (GVs.imm rfl) (fun _ => rfl)) (.old rfl rfl (GB.one (.cons (.imm rfl) (.cons (.imm rfl) (.cons (.imm rfl) (.cons (.rs rfl rfl rfl rfl) (.cons (.rs rfl rfl rfl rfl) .nil))))) (fun e => by cases e)) (.old rfl rfl (GB.rowI (Nat.le_refl _) (fun q hq => ⟨rfl, by unfold sw1; rfl⟩)) (.old rfl rfl (GB.row (Nat.le_refl _) (fun q hq => ?_) (fun e => by cases e)) .nil)))
            by_cases e : q = n
            · subst e
              exact .cons (.cc (x' := .rs (54, 0, 0) 1 0 f.regs.toNat) (show (bif Nat.beq q q then _ else _) = _ by rw [show Nat.beq q q = true by simp]; rfl) rfl (.rs (Zcf hq) srcK_eq rfl rfl)) .nil
            · have e' : Nat.beq q n = false := by rw [Bool.eq_false_iff]; intro h; exact e (Nat.eq_of_beq_eq_true h)
              exact .cons (.cc (x' := .rs (1002, q, 0) 1 0 f.regs.toNat) (show (bif Nat.beq q n then _ else _) = _ by rw [e']; rfl) rfl (.rs (Zcf hq) (srcK_ne e) rfl rfl)) .nil
          · by_cases e : p = n
            · subst e
              exact ⟨(54, 0, 0), _, _, _, srcK_eq, rfl, Nat.le_refl _, fun x hx => ⟨rfl, by rw [hB1 x]⟩⟩
            · refine ⟨(1002, p, 0), true, f.regs.toNat, fun x => [.bool (atB s.2.1 p x)], srcK_ne e, ?_, Nat.le_refl _, fun x hx => ⟨rfl, by rw [hB2 p x e]⟩⟩
              show Option.map _ (famB f.blocks.length f.regs.toNat (atB s.2.1) (1002, p, 0)) = _
              rw [Zcf hp]; rfl
        · refine Zgc tok (fun j => bif Nat.beq j 3 then some true else none) (by rfl) ?_
          conv => whnf
          refine .inr ⟨_, _, _, uG (QH.opq (i := (102, 0, 0)) (imm := false) (n := f.blocks.length) (n' := f.blocks.length) (imm' := false) (y := fun q => .rs (1002, q, 0) 1 0 f.regs.toNat) (z := fun _ => .rs (54, 0, 0) 1 0 f.regs.toNat) (sel := fun q => Nat.beq q n) (ups0 := Zbg [((8, 0, 0), sBox f (101, 0, 0) (102, 0, 0) f.blocks.length f.blocks.length), ((101, 0, 0), setR (s.1.set n (Zfz s.1 f.regs.toNat f n)) f.blocks.length), ((54, 0, 0), Zbd f.regs.toNat (fun q => be.getD q false))]) rfl (fun X ι w vals hs hV => ng_box hs rfl hV)
            (fun vals => QH.cast (look_pull rfl rfl) (QH.of (dead := []) [(k0, .old (8, 0, 0), sBox f k1 k2 f.blocks.length f.blocks.length), (k1, .old (101, 0, 0), setR s.1 f.blocks.length), (k2, .old (102, 0, 0), rowX (fun q => .is (vals q)) f.blocks.length)] (hcall vals _ hni) rfl (.old rfl (BLe.rowO rfl) (.old rfl (BLe.refl _) (.old rfl (BLe.refl _) .nil))) (.cons (.eq rfl) (.cons (.eq rfl) .nil)) [(k0, (8, 0, 0)), (k1, (101, 0, 0)), (k2, (102, 0, 0)), (k5, (54, 0, 0))] rfl (.cons rfl (BLe.rowO rfl) (.cons rfl (BLe.refl _) (.cons rfl (BLe_S2 n _ f.regs.toNat vals rfl) (.cons rfl (BLe.refl _) .nil)))) rfl)) (Nat.le_refl _)), ?_⟩
          conv => whnf
          refine ⟨by rw [decide_eq_true hc], ?_⟩
          conv => whnf
          (repeat' (refine Zab tok (by rfl) ?_; conv => whnf))
          refine ⟨m + 1, hml, by omega, ?_⟩
          show Weak _ _ _ (mkF [(1, .bp (1, 0, 0) 0), (2, .np), (3, .bp (8, 0, 0) 0), (4, .bool (Prod.snd (Prod.snd (swD f ((itS f j).1, (itS f j).2.1, false) (m + 1))))), (5, iv ((f.blocks.length : Int) - 1 - (((m + 1) : Nat) : Int)))] [((1, 0, 0), Zak (Za1 f)), ((8, 0, 0), sBox f (101, 0, 0) (102, 0, 0) f.blocks.length f.blocks.length), ((101, 0, 0), setR (Prod.fst (swD f ((itS f j).1, (itS f j).2.1, false) (m + 1))) f.blocks.length), ((102, 0, 0), rowB f.blocks.length f.regs.toNat)] (famB f.blocks.length f.regs.toNat (atB (Prod.fst (Prod.snd (swD f ((itS f j).1, (itS f j).2.1, false) (m + 1)))))))
          rw [hsucc]
          refine Weak.fam [((1002, n, 0), some (54, 0, 0))] rfl (fun c hc => by simp only [tgts, List.mem_singleton] at hc; subst hc; exact .inl rfl) ?_ ?_ (keepB (fun p hp => ?_)) (fun i hi => by cases hi)
          · (repeat' first | exact TLg.nil | refine TLg.cons (GV.imm rfl) ?_ | refine TLg.cons (GV.bp rfl rfl) ?_ | refine TLg.cons (GV.int ?_) ?_ | refine TLg.cons (GV.bool ?_) ?_)
            all_goals first | rfl | (simp (disch := omega) only [wrap64]; omega) | skip
            · simp only [sw1, decide_eq_true hc, Bool.true_or, cond_true]
          · refine .old rfl rfl (GB.one (GVs.imm rfl) (fun _ => rfl)) (.old rfl rfl (GB.one (.cons (.imm rfl) (.cons (.imm rfl) (.cons (.imm rfl) (.cons (.rs rfl rfl rfl rfl) (.cons (.rs rfl rfl rfl rfl) .nil))))) (fun e => by cases e)) (.old rfl rfl (GB.rowI (Nat.le_refl _) (fun q hq => ⟨rfl, by unfold sw1; rfl⟩)) (.old rfl rfl (GB.row (Nat.le_refl _) (fun q hq => ?_) (fun e => by cases e)) .nil)))
            by_cases e : q = n
            · subst e
              exact .cons (.cc (x' := .rs (54, 0, 0) 1 0 f.regs.toNat) (show (bif Nat.beq q q then _ else _) = _ by rw [show Nat.beq q q = true by simp]; rfl) rfl (.rs (Zcf hq) srcK_eq rfl rfl)) .nil
            · have e' : Nat.beq q n = false := by rw [Bool.eq_false_iff]; intro h; exact e (Nat.eq_of_beq_eq_true h)
              exact .cons (.cc (x' := .rs (1002, q, 0) 1 0 f.regs.toNat) (show (bif Nat.beq q n then _ else _) = _ by rw [e']; rfl) rfl (.rs (Zcf hq) (srcK_ne e) rfl rfl)) .nil
          · by_cases e : p = n
            · subst e
              exact ⟨(54, 0, 0), _, _, _, srcK_eq, rfl, Nat.le_refl _, fun x hx => ⟨rfl, by rw [hB1 x]⟩⟩
            · refine ⟨(1002, p, 0), true, f.regs.toNat, fun x => [.bool (atB s.2.1 p x)], srcK_ne e, ?_, Nat.le_refl _, fun x hx => ⟨rfl, by rw [hB2 p x e]⟩⟩
              show Option.map _ (famB f.blocks.length f.regs.toNat (atB s.2.1) (1002, p, 0)) = _
              rw [Zcf hp]; rfl
      have hml : m = f.blocks.length := by simp only [decide_eq_false_iff_not] at hb; omega
      clear hb
      subst hml
      refine ⟨j + 1, hjl, by omega, ?_⟩
      refine Weak.fam [] rfl (fun i hi => by cases hi) ?_ ?_ (keepB0 (fun _ => rfl) (fun _ => rfl)) (fun i hi => by cases hi)
      · (repeat' first | exact TLg.nil | refine TLg.cons (GV.imm rfl) ?_ | refine TLg.cons (GV.bp rfl rfl) ?_)
        all_goals rfl
      · exact .old rfl rfl (GB.one (GVs.imm rfl) (fun _ => rfl)) (.old rfl rfl (GB.one (.cons (.imm rfl) (.cons (.imm rfl) (.cons (.imm rfl) (.cons (.rs rfl rfl rfl rfl) (.cons (.rs rfl rfl rfl rfl) .nil))))) (fun e => by cases e)) (.old rfl rfl (GB.rowI (Nat.le_refl _) (fun q hq => ⟨rfl, rfl⟩)) (.old rfl rfl (GB.row (Nat.le_refl _) (fun q hq => .cons (.rs (Zcf hq) rfl rfl rfl) .nil) (fun e => by cases e)) .nil)))
    have hjl : j = Zfi f := by
      rcases Nat.lt_or_ge j (Zfi f) with h | h
      · rw [foundJ_lt f h] at hb; cases hb
      · omega
    clear hb
    have hA : foundA f = (itS f j).1 := by unfold foundA; rw [if_pos hw, hjl]
    have hB : Zbs f = (itS f j).2.1 := by unfold Zbs; rw [if_pos hw, hjl]
    have hg := (Zex f j).1
    skip
    unfold fndH
    rw [hA, hB, hg.l1, hg.l2]
    refine ⟨_, srcL [(u5, some (8, 0, 0)), (u4, some (101, 0, 0)), (u3, some (102, 0, 0))], rfl, ?_⟩
    rw [← and_assoc]
    refine ⟨leaveL [(u5, some (8, 0, 0)), (u4, some (101, 0, 0)), (u3, some (102, 0, 0))] rfl (fun c hc => ?_) ?_ (keepB0 (fun _ => rfl) (fun _ => rfl)), .bp rfl rfl⟩
    · simp only [tgts, List.mem_cons, List.not_mem_nil, or_false] at hc
      rcases hc with rfl | rfl | rfl <;> exact .inl rfl
    · exact .old rfl rfl (GB.one (.cons (.imm rfl) (.cons (.imm rfl) (.cons (.imm rfl) (.cons (.rs rfl rfl rfl rfl) (.cons (.rs rfl rfl rfl rfl) .nil))))) (fun e => by cases e)) (.old rfl rfl (GB.rowI (Nat.le_refl _) (fun q hq => ⟨rfl, rfl⟩)) (.old rfl rfl (GB.row (Nat.le_refl _) (fun q hq => .cons (.rs (Zcf hq) rfl rfl rfl) .nil) (fun e => by cases e)) .nil))
  all_goals
    have hkl : k < f.blocks.length := by simp only [decide_eq_true_eq] at hb; omega
    refine Zaq (Weak.fam (tl := [(1, .bp (1, 0, 0) 0), (2, .np), (3, .bp (8, 0, 0) 0), (15, iv f.blocks.length), (16, iv k)]) (hl := [((1, 0, 0), Zak (Za1 f)), ((8, 0, 0), sBox f (101, 0, 0) (102, 0, 0) (k + 1) (k + 1)), ((101, 0, 0), falR f (k + 1)), ((102, 0, 0), rowB (k + 1) f.regs.toNat)]) (F := (famB (k + 1) f.regs.toNat (fun _ _ => false))) [((101, 0, 0), some (28, 0, 0)), ((102, 0, 0), some (37, 0, 0)), ((1002, k, 0), some (35, 0, 0))] rfl (fun c hc => by simp only [tgts, List.mem_cons, List.not_mem_nil, or_false] at hc; rcases hc with rfl | rfl | rfl <;> exact .inl rfl) ?_ ?_ (keepB (fun p hp => ?_)) (fun i hi => by cases hi)) ?_
    · (repeat' first | exact TLg.nil | refine TLg.cons (GV.imm rfl) ?_ | refine TLg.cons (GV.bp rfl rfl) ?_)
    · refine .old rfl rfl (GB.one (GVs.imm rfl) (fun _ => rfl)) (.old rfl rfl (GB.one (.cons (.imm rfl) (.cons (.imm rfl) (.cons (.imm rfl) (.cons (.rs rfl rfl rfl rfl) (.cons (.rs rfl rfl rfl rfl) .nil))))) (fun e => by cases e)) (.old rfl rfl (GB.row (Nat.le_refl _) (fun q hq => ?_) (fun _ _ _ => rfl)) (.old rfl rfl (GB.row (Nat.le_refl _) (fun q hq => ?_) (fun e => by cases e)) .nil)))
      · exact GVs_appK (K := fun l => Zbt (kill (102, 0, 0)) (Zbt (kill (101, 0, 0)) l)) hq (fun _ => GVs.imm rfl) (fun _ => .cons (.frz (hd_of rfl (fun j hj => by obtain ⟨b, hb⟩ := Option.isSome_iff_exists.1 hj; obtain ⟨p, rfl, hp, _⟩ := famB_some hb; by_cases e : p = k; (subst e; exact fun h => by cases (show srcL [((1002, p, 0), some (35, 0, 0))] (1002, p, 0) = _ from h).symm.trans srcK_eq); (exact fun h => by cases (show srcL [((1002, k, 0), some (35, 0, 0))] (1002, p, 0) = _ from h).symm.trans (srcK_ne e)))) rfl (Nat.le_of_eq (Nat.zero_add _)) (List.length_replicate).symm (fun x hx => GVs.eqI rfl (falAt x)) (fun _ _ => rfl)) .nil)
      · exact GVs_appK (K := fun l => Zbt (kill (102, 0, 0)) l) hq (fun e => .cons (.rs (Zcf hq) (show srcL [((1002, k, 0), some (35, 0, 0))] (1002, q, 0) = _ from srcK_ne (by omega)) rfl rfl) .nil) (fun e => .cons (.rs (Zcf hq) (show srcL [((1002, k, 0), some (35, 0, 0))] (1002, q, 0) = some (35, 0, 0) from by rw [e]; exact srcK_eq) rfl rfl) .nil)
    · by_cases e : p = k
      · subst e
        exact ⟨(35, 0, 0), _, _, _, show srcL [((1002, p, 0), some (35, 0, 0))] (1002, p, 0) = _ from srcK_eq, rfl, Nat.le_refl _, fun x hx => ⟨rfl, rfl⟩⟩
      · refine ⟨(1002, p, 0), true, f.regs.toNat, fun x => [.bool false], show srcL [((1002, k, 0), some (35, 0, 0))] (1002, p, 0) = _ from srcK_ne e, ?_, Nat.le_refl _, fun x hx => ⟨rfl, rfl⟩⟩
        show Option.map _ (Option.map _ (famB k f.regs.toNat (fun _ _ => false) (1002, p, 0))) = _
        rw [Zcf (by omega)]; rfl
    · (repeat' (refine Zab tok (by rfl) ?_; conv => whnf))
      refine ⟨k + 1, hkl, by omega, ?_⟩
      refine Weak.fam [] rfl (fun i hi => by cases hi) ?_ ?_ (keepB0 (fun _ => rfl) (fun _ => rfl)) (fun i hi => by cases hi)
      · (repeat' first | exact TLg.nil | refine TLg.cons (GV.imm rfl) ?_ | refine TLg.cons (GV.bp rfl rfl) ?_ | refine TLg.cons (GV.int ?_) ?_)
        all_goals first | rfl | (simp (disch := omega) only [wrap64]; omega)
      · exact .old rfl rfl (GB.one (GVs.imm rfl) (fun _ => rfl)) (.old rfl rfl (GB.one (.cons (.imm rfl) (.cons (.imm rfl) (.cons (.imm rfl) (.cons (.rs rfl rfl rfl rfl) (.cons (.rs rfl rfl rfl rfl) .nil))))) (fun e => by cases e)) (.old rfl rfl (GB.rowI (Nat.le_refl _) (fun q hq => ⟨rfl, rfl⟩)) (.old rfl rfl (GB.row (Nat.le_refl _) (fun q hq => .cons (.rs (Zcf hq) rfl rfl rfl) .nil) (fun e => by cases e)) .nil)))
theorem c_BehindX (f : Func) : HF Tryz.prog 26 [.agg (Za1 f)] (.rs u3 1 0 (Zbs f).length) (orH (Zbg [(u3, rowB (Zbs f).length f.regs.toNat)]) (famB (Zbs f).length f.regs.toNat (atB (Zbs f)))) := by
  refine HF_intro tok Tryz.func26 rfl (by decide +kernel) (Nat.le_of_ble_eq_true rfl) ?_
  (repeat' first | refine Zad ?_ | (refine Zab tok (by rfl) ?_; conv => whnf))
  refine .inr ⟨_, _, _, uG (QH.ofF (c_foundX f) rfl (fun i hi => ?_)), ?_⟩
  · rcases lookNX hi with h | h
    · simp only [List.map_cons, List.map_nil, List.mem_cons, List.not_mem_nil, or_false] at h
      rcases h with rfl | rfl | rfl <;> rfl
    · obtain ⟨b, hb⟩ := Option.isSome_iff_exists.1 h
      obtain ⟨p, rfl, _⟩ := famB_some hb
      rfl
  conv => whnf
  (repeat' (refine Zah ?_; conv => whnf))
  refine ⟨_, srcL [], rfl, ?_⟩
  rw [← and_assoc]
  exact ⟨leaveL [] rfl (fun c hc => by cases hc) (.old rfl rfl (GB.row (Nat.le_refl _) (fun q hq => .cons (.rs (Zcf hq) rfl rfl rfl) .nil) (fun e => by cases e)) .nil) (keepB (fun p hp => ⟨(1002, p, 0), true, f.regs.toNat, fun x => [.bool (atB (Zbs f) p x)], rfl, bigH_atX (u := fndH f) (Zcf hp), Nat.le_refl _, fun x hx => ⟨rfl, rfl⟩⟩)), .rs rfl rfl rfl rfl⟩
end Go.Proofs.YtngcbpijejbibaaGreat
namespace Go.Proofs.YtngcbpijejbibaaGreat
open Go Dv
set_option maxRecDepth 10000
set_option linter.unusedSimpArgs false
def mayB (x : Ins) : Bool := decide (x.op = 1 ∨ x.op = 2 ∨ x.op = 3 ∨ x.op = 4 ∨ x.op = 5 ∨ x.op = 7 ∨ x.op = 8)
theorem c_may (x : Ins) : FC Tryz.prog 39 [.agg (Za2 x)] (.bool (mayB x)) := by
  refine Zan tok Tryz.func39 rfl (by decide +kernel) (Nat.le_of_ble_eq_true rfl) ?_
  (repeat' first | refine Zad ?_ | (refine Zab tok (by rfl) ?_; conv => whnf) | refine Zai ?_ | (refine Zag ?_; conv => whnf) | (refine Zah ?_; conv => whnf) | refine Zaf rfl (fun hb => ?_) (fun hb => ?_))
  all_goals (refine ⟨_, rfl, Rel.bool ?_⟩; symm; unfold mayB)
  all_goals (simp only [decide_eq_true_eq, decide_eq_false_iff_not] at * <;> omega)
structure RvI {α : Type} (d : α) (l : List α) (i : Nat) (r : List α) : Prop where
  len : r.length = l.length
  hi : 2 * i ≤ l.length + 1
  out : ∀ x, (x < i ∨ l.length - i ≤ x) → x < l.length → r.getD x d = l.getD (l.length - 1 - x) d
  mid : ∀ x, i ≤ x → x < l.length - i → r.getD x d = l.getD x d
theorem RvI.step {α : Type} {d : α} {l : List α} {i : Nat} {r : List α} (h : RvI d l i r) (hi : 2 * i + 1 < l.length) :
    RvI d l (i + 1) ((r.set i (r.getD (l.length - 1 - i) d)).set (l.length - 1 - i) (r.getD i d)) := by
  have hl := h.len
  refine ⟨by simp [hl], by omega, fun x hx hxl => ?_, fun x h1 h2 => ?_⟩
  · rw [Zbj, Zbj]
    simp only [List.length_set]
    by_cases e1 : l.length - 1 - i = x
    · rw [if_pos ⟨e1, by omega⟩, h.mid i (by omega) (by omega)]; congr 1; omega
    · rw [if_neg (fun h => e1 h.1)]
      by_cases e2 : i = x
      · rw [if_pos ⟨e2, by omega⟩, h.mid _ (by omega) (by omega), e2]
      · rw [if_neg (fun h => e2 h.1)]
        exact h.out x (by omega) hxl
  · rw [Zbj, Zbj]
    rw [if_neg (by omega), if_neg (by omega)]
    exact h.mid x (by omega) (by omega)
theorem RvI.done {α : Type} {d : α} {l : List α} {i : Nat} {r : List α} (h : RvI d l i r) (hi : l.length ≤ 2 * i + 1) : r = l.reverse := by
  apply List.ext_getElem
  · simp [h.len]
  · intro x h1 h2
    have hx : x < l.length := by rw [← h.len]; exact h1
    have e : r.getD x d = l.getD (l.length - 1 - x) d := by
      by_cases c : x < i ∨ l.length - i ≤ x
      · exact h.out x c hx
      · rw [h.mid x (by omega) (by omega)]; congr 1; omega
    rw [List.getElem_reverse]
    simpa [List.getD_eq_getElem?_getD, h1, show l.length - 1 - x < l.length by omega] using e
theorem upIns {r : List Ins} {K J : Nat} {X Y : Ins} {i j z : Nat} (hK : K = i) (hJ : J = j) (hi : i < r.length) (hj : j < r.length) : updR (updR (fun q => Za2 (r.getD q default)) K (Za2 X)) J (Za2 Y) z = Za2 (((r.set i X).set j Y).getD z default) := by
  subst hK; subst hJ
  rw [Zbj, Zbj]
  simp only [List.length_set]
  by_cases e1 : J = z
  · subst e1; rw [if_pos ⟨rfl, hj⟩]; exact updR_hit
  · rw [if_neg (fun h => e1 h.1)]
    refine (updR_miss e1).trans ?_
    by_cases e2 : K = z
    · subst e2; rw [if_pos ⟨rfl, hi⟩]; exact updR_hit
    · rw [if_neg (fun h => e2 h.1)]; exact updR_miss e2
theorem c_ReverseI (l : List Ins) : HC Tryz.prog [k0] 42 [(k0, insR l)] [.rs k0 7 0 l.length] (.tup []) [(k0, insR l.reverse)] := by
  refine Zbr tok Tryz.func42 rfl (by decide +kernel) (Nat.le_of_ble_eq_true rfl) ?_
  refine Zao 0 (fun hl => ?_)
  have hmx : maxL = 4294967296 := rfl
  have hl0 : l.length ≤ maxL := hl
  clear hl
  (repeat' first | refine Zad ?_ | (refine Zab tok (by rfl) ?_; conv => whnf) | refine Zai ?_)
  refine Zat (fun s : Nat × List Ins => mkS [(0, .rs k0 7 0 l.length), (2, iv s.1), (3, iv ((l.length : Int) - 1 - ((s.1 : Nat) : Int)))] [((1, 7, 0), .row true 7 l.length (fun j => Za2 (List.getD s.2 j default)))]) (fun s => RvI default l s.1 s.2) (fun s => l.length - s.1) (0, l) ⟨rfl, by simp, fun x hx h => by omega, fun x _ _ => rfl⟩ ?_ ?_
  · refine Weak.list [((1, 7, 0), .old (1, 7, 0), .row true 7 l.length (fun j => Za2 (List.getD l j default)))] rfl (by rfl) ?_ (.old rfl (BLe.refl _) .nil)
    ((repeat' first | exact TLes.nil | refine TLes.cons (TLe.eq rfl) ?_ | refine TLes.cons (TLe.int ?_) ?_); (all_goals first | ((try (simp only [Zaa, kzz, kz11, kz12, maxL, Zac] at *)); (simp (disch := omega) only [wrap64]; omega)) | skip))
  rintro ⟨i, r⟩ hI
  replace hI : RvI default l i r := hI
  have hIl := hI.len
  have hIh := hI.hi
  simp only
  (repeat' ((fail_if_success (show AWp _ _ _ (Code.region 3 _ _) _ _)); first | refine Zad ?_ | (refine Zab tok (by rfl) ?_; conv => whnf) | refine Zai ?_ | (refine Zag ?_; conv => whnf) | (refine Zas ?_; conv => whnf) | refine Zaf rfl (fun hb => ?_) (fun hb => ?_)))
  · have hil : 2 * i + 1 < l.length := by simp only [decide_eq_true_eq] at hb; omega
    clear hb
    have hj : ((l.length : Int) - 1 - i).toNat = l.length - 1 - i := by omega
    ((repeat' first | (refine Zab tok (by rfl) ?_; conv => whnf) | (refine Za0 tok mix (by rfl) ?_; conv => whnf) | (refine @And.intro (Zaa _ _ _ _) _ ?_ ?_; rotate_left; (conv => whnf); rotate_right)); all_goals (try ((guard_target = Zaa _ _ _ _); refine Zae ?_; (all_goals (try simp only [Zaa, kzz, kz11, kz12, maxL, Zac] at *)); all_goals omega)))
    refine ⟨(i + 1, (r.set i (r.getD (l.length - 1 - i) default)).set (l.length - 1 - i) (r.getD i default)), hI.step (by omega), (show l.length - (i + 1) < l.length - i by omega), ?_⟩
    refine Weak.list [((1, 7, 0), .old (1, 7, 0), .row true 7 l.length (fun j => Za2 (List.getD ((r.set i (r.getD (l.length - 1 - i) default)).set (l.length - 1 - i) (r.getD i default)) j default)))] rfl (by rfl) ?_ (.old rfl (BLe.rowW (Nat.le_refl _) (fun z hz => Wks.of ?_)) .nil)
    · ((repeat' first | exact TLes.nil | refine TLes.cons (TLe.eq rfl) ?_ | refine TLes.cons (TLe.int ?_) ?_); (all_goals first | ((try (simp only [Zaa, kzz, kz11, kz12, maxL, Zac] at *)); first | exact wrap64 (by omega) (by omega) | (simp (disch := omega) only [wrap64]; omega)) | skip))
    · have e1 : r.getD (0 + ((l.length : Int) - 1 - i).toNat) default = r.getD (l.length - 1 - i) default := by rw [hj, Nat.zero_add]
      have e2 : r.getD (0 + (i : Int).toNat) default = r.getD i default := by rw [Int.toNat_natCast, Nat.zero_add]
      rw [← e1, ← e2]
      exact upIns (by rw [Int.toNat_natCast, Nat.zero_add]) (by rw [hj, Nat.zero_add]) (by omega) (by omega)
  · have hil : ¬ (2 * i + 1 < l.length) := by simp only [decide_eq_false_iff_not] at hb; omega
    clear hb
    have e := hI.done (by omega)
    subst e
    exact ⟨_, [(k0, .old k0, insR l.reverse)], rfl, rfl, rfl, rfl, .old rfl (BLe.rowW (by simp) (fun z hz => Wks.of rfl)) .nil, .eq rfl⟩
end Go.Proofs.YtngcbpijejbibaaGreat
namespace Go.Proofs.YtngcbpijejbibaaGreat
open Go Dv
set_option maxRecDepth 10000
set_option linter.unusedSimpArgs false
def idleX (x : Ins) (g : Nat → Bool) : Bool := decide (x.op = 2 ∧ x.a = x.dst) || (mayB x && !(g x.dst.toNat))
def stepC (x : Ins) (s : List Ins × (Nat → Bool)) : List Ins × (Nat → Bool) := if idleX x s.2 = true then s else (s.1 ++ [x], Zcv x s.2)
def Ze0 (l : List Ins) (g : Nat → Bool) : List Ins × (Nat → Bool) := l.foldr stepC ([], g)
def cleanL (l : List Ins) (g : Nat → Bool) : List Ins := (Ze0 l g).1.reverse
def cleanG (l : List Ins) (g : Nat → Bool) : Nat → Bool := (Ze0 l g).2
theorem may_sets {x : Ins} (h : mayB x = true) : Ze9 x = true := by
  unfold mayB at h; unfold Ze9
  simp only [decide_eq_true_eq] at h ⊢
  omega
set_option maxHeartbeats 4000000 in
theorem c_cleaned (l : List Ins) (n : Nat) (g : Nat → Bool) (hA : ∀ x ∈ l, ∀ p ∈ Zbm x, 0 ≤ p ∧ p < (n : Int)) (hS : ∀ x ∈ l, Ze9 x = true → 0 ≤ x.dst ∧ x.dst < (n : Int)) :
    HC Tryz.prog [k0] 28 [(k0, Zbd n g)] [inss l, .rs k0 1 0 n] (.rs k5 7 0 (cleanL l g).length) [(k0, Zbd n (cleanG l g)), (k5, insR (cleanL l g))] := by
  refine Zbr tok Tryz.func28 rfl (by decide +kernel) (Nat.le_of_ble_eq_true rfl) ?_
  have hmx : maxL = 4294967296 := rfl
  refine Zao 0 (fun hl => ?_)
  have hl0 : l.length ≤ maxL := hl.1
  clear hl
  (repeat' first | refine Zad ?_ | (refine Zab tok (by rfl) ?_; conv => whnf))
  refine .inl ⟨_, _, _, uG (QC.fc (c_Backward l) rfl), ?_⟩
  conv => whnf
  refine Zai ?_
  have hgen : ∃ cl : Nat → List Ins × (Nat → Bool), cl = fun k => (l.drop (l.length - k)).foldr stepC ([], g) := ⟨_, rfl⟩
  obtain ⟨cl, hcl⟩ := hgen
  have hc0 : cl 0 = ([], g) := by rw [hcl]; simp only [Nat.sub_zero, List.drop_length, List.foldr_nil]
  have hcm : cl l.length = Ze0 l g := by rw [hcl]; simp only [Nat.sub_self, List.drop_zero]; rfl
  have hcs : ∀ k, k < l.length → cl (k + 1) = stepC (l.getD (l.length - 1 - k) default) (cl k) := fun k hk => by
    rw [hcl]
    simp only
    have e1 : l.length - (k + 1) = l.length - 1 - k := by omega
    rw [e1, Zd4 default (show l.length - 1 - k < l.length by omega), List.foldr_cons, show l.length - 1 - k + 1 = l.length - k by omega]
  have hlen : ∀ k, (cl k).1.length ≤ k := fun k => by
    induction k with
    | zero => rw [hc0]; exact Nat.le_refl _
    | succ k ih =>
      by_cases hk : k < l.length
      · rw [hcs k hk]; unfold stepC
        split
        · omega
        · simp only [List.length_append, List.length_cons, List.length_nil]; omega
      · have : cl (k + 1) = cl k := by rw [hcl]; simp only; rw [show l.length - (k + 1) = l.length - k by omega]
        rw [this]; omega
  refine Zaq (Weak.list (tl := [(3, .bp k2 0), (5, .bp k5 0), (13, .fn 61 [.ip [inss l]])]) [((1, 7, 0), .old (1, 7, 0), Zbd n (cl 0).2), ((3, 7, 0), .old (3, 0, 0), .row false 1 1 (fun _ => [.rs k0 1 0 n])), ((5, 7, 0), .old (5, 0, 0), .row false 1 1 (fun _ => [.rs (109, 0, 0) 7 0 (cl 0).1.length])), ((109, 0, 0), .nil, insR (cl 0).1)] rfl (by rfl) ?_ ?_) ?_
  · ((repeat' first | exact TLes.nil | refine TLes.cons (TLe.eq rfl) ?_); skip)
  · rw [hc0]
    exact .old rfl (BLe.refl _) (.oldR rfl (BLeR.cells rfl (fun x hx => .cons .eq .nil)) (.oldR rfl (BLeR.cells rfl (fun x hx => .cons (.nil rfl) .nil)) (.new .nil)))
  refine AWp_back (gB := 61) (sz := 7) (m := l.length) (f := fun i => Za2 (l.getD i default)) [k0, k2, k5] (fun i hi => by simp only [List.mem_cons, List.not_mem_nil, or_false] at hi ⊢; simp [hi]) (lookT [(3, .bp k2 0), (5, .bp k5 0), (13, .fn 61 [.ip [inss l]])]) (fun k => Zbg [((1, 7, 0), Zbd n (Prod.snd (cl k))), ((3, 7, 0), .row false 1 1 (fun _ => [.rs k0 1 0 n])), ((5, 7, 0), .row false 1 1 (fun _ => [.rs (109, 0, 0) 7 0 (List.length (Prod.fst (cl k)))])), ((109, 0, 0), insR (Prod.fst (cl k)))]) c_back ⟨_, Tryz.func61, rfl, by decide +kernel⟩ rfl (by decide) (pinT_spec rfl) (fun k hk => ?_) ?_
  · have hs1 := hcs k hk
    have hkl := hlen k
    have hmem := Zf7 default (show l.length - 1 - k < l.length by omega)
    have hgen : ∃ x, l.getD (l.length - 1 - k) default = x := ⟨_, rfl⟩
    obtain ⟨x, hx⟩ := hgen
    rw [hx] at hs1 hmem
    have hxs := hS x hmem
    have hxa := hA x hmem
    have hgen : ∃ s, cl k = s := ⟨_, rfl⟩
    obtain ⟨s, hs⟩ := hgen
    rw [hs] at hs1 hkl
    simp only [hx, hs]
    have hms := fun h => hxs (may_sets (x := x) h)
    have hM := c_may x
    refine Zaq (Weak.list (tl := [(3, .bp k2 0), (5, .bp k5 0), (15, .agg (Za2 x))]) [((1, 7, 0), .old (1, 7, 0), Zbd n (Prod.snd s)), ((3, 7, 0), .old (3, 7, 0), .row false 1 1 (fun _ => [.rs k0 1 0 n])), ((5, 7, 0), .old (5, 7, 0), .row false 1 1 (fun _ => [.rs (109, 0, 0) 7 0 (List.length (Prod.fst s))])), ((109, 0, 0), .old (109, 0, 0), insR (Prod.fst s))] rfl (by rfl) ?_ (.old rfl (BLe.refl _) (.old rfl (BLe.rowO rfl) (.old rfl (BLe.rowO rfl) (.old rfl (BLe.refl _) .nil))))) ?_
    · ((repeat' first | exact TLes.nil | refine TLes.cons (TLe.eq rfl) ?_); skip)
    have hid : (bif bif decide (x.op = 2) then decide (x.a = x.dst) else false then true else bif mayB x then !s.2 (0 + x.dst.toNat) else false) = idleX x s.2 := by
      unfold idleX
      rw [Nat.zero_add]
      by_cases e1 : x.op = 2 <;> by_cases e2 : x.a = x.dst <;> cases mayB x <;> simp [e1, e2]
    (repeat' ((fail_if_success (show AWp _ _ _ (Code.region 5 _ _) _ _)); first | refine Zad ?_ | (refine Zab tok (by rfl) ?_; conv => whnf) | refine Zai ?_))
    refine .inl ⟨_, _, _, uG (QC.fc hM rfl), ?_⟩
    conv => whnf
    (repeat' ((fail_if_success (show AWp _ _ _ (Code.region 5 _ _) _ _)); first | refine Zad ?_ | (refine Zag ?_; conv => whnf) | (refine Zas ?_; conv => whnf) | refine Zaf rfl (fun hb => ?_) (fun hb => ?_) | (refine @And.intro (Zaa _ _ _ _) _ ?_ ?_; rotate_left; (conv => whnf); rotate_right)))
    iterate 2 (refine Za4 ?_; intro hgd; (conv at hgd => whnf); have hgd2 := hms hgd.1; omega)
    all_goals rw [hid] at hb
    · rw [hs1, show stepC x s = s from if_pos hb]
      refine ⟨lookT [], Weak.list (tl := []) [((1, 7, 0), .old (1, 7, 0), Zbd n (Prod.snd s)), ((3, 7, 0), .old (3, 7, 0), .row false 1 1 (fun _ => [.rs k0 1 0 n])), ((5, 7, 0), .old (5, 7, 0), .row false 1 1 (fun _ => [.rs (109, 0, 0) 7 0 (List.length (Prod.fst s))])), ((109, 0, 0), .old (109, 0, 0), insR (Prod.fst s))] rfl (by rfl) ?_ (.old rfl (BLe.refl _) (.old rfl (BLe.rowO rfl) (.old rfl (BLe.rowO rfl) (.old rfl (BLe.refl _) .nil))))⟩
      exact .nil
    have hst : stepC x s = (s.1 ++ [x], Zcv x s.2) := if_neg (by rw [hb]; simp)
    have hSc := c_Sets x
    have hAk := c_Asks x
    have hsv : Ze9 x = true → setsV x = x.dst := fun h => by unfold setsV; rw [if_pos h]
    have hgen : ∃ g1, (if Ze9 x = true then upT s.2 (setsV x) false else s.2) = g1 := ⟨_, rfl⟩
    obtain ⟨g1, hg1⟩ := hgen
    have hstX : Zcv x s.2 = Zdf g1 (Zbm x) := by unfold Zcv; rw [hg1]
    have hgen : ∃ o, s.1 ++ [x] = o := ⟨_, rfl⟩
    obtain ⟨o, ho⟩ := hgen
    have hol : o.length = s.1.length + 1 := by rw [← ho]; simp
    rw [hst, hstX, ho] at hs1
    ((repeat' ((fail_if_success (show AWp _ _ _ (Code.region 6 _ _) _ _)); first | refine Zad ?_ | (refine Zab tok (by rfl) ?_; conv => whnf) | (refine @And.intro (Zaa _ _ _ _) _ ?_ ?_; rotate_left; (conv => whnf); rotate_right))); all_goals (try ((guard_target = Zaa _ _ _ _); refine Zae ?_; (first | refine And.intro (Zdh rfl ?_) ?_ | skip); (all_goals (try simp only [Zaa, kzz, kz11, kz12, maxL, Zac] at *)); all_goals omega)))
    refine Zaq (Weak.list (tl := [(3, .bp k2 0), (5, .bp k5 0), (7, .bp (7, 0, 0) 0)]) [((1, 7, 0), .old (1, 7, 0), Zbd n s.2), ((3, 7, 0), .old (3, 7, 0), .row false 1 1 (fun _ => [.rs k0 1 0 n])), ((5, 7, 0), .old (5, 7, 0), .row false 1 1 (fun _ => [.rs (109, 0, 0) 7 0 o.length])), ((109, 0, 0), .old (41, 0, 0), insR o), ((7, 0, 0), .old (7, 0, 0), .row true 7 1 (fun _ => Za2 x))] rfl (by rfl) ?_ (.old rfl (BLe.refl _) (.old rfl (BLe.rowO rfl) (.old rfl (BLe.rowW (Nat.le_refl _) (ltS (Wks.of (by rw [hol]; rfl)) lt0)) (.old rfl (BLe.rowW (Nat.le_of_eq hol) (fun z hz => Wks.of (by simp only [allB, Zb6, Bool.true_and, Bool.and_true, Bool.and_self, cond_true]; exact app_fnW (sz := 7) (g := fun q => Za2 (o.getD q default)) (fun i hi => by rw [← ho]; simp [List.getD_eq_getElem?_getD, List.getElem?_append_left hi]) (congrArg Za2 (show x = o.getD s.1.length default from by rw [← ho]; simp [List.getD_eq_getElem?_getD])) rfl (by omega)))) (.old rfl (BLe.rowW (Nat.le_refl _) (ltS (Wks.of rfl) lt0)) .nil)))))) ?_
    · ((repeat' first | exact TLes.nil | refine TLes.cons (TLe.eq rfl) ?_); skip)
    (repeat' (refine Zab tok (by rfl) ?_; conv => whnf))
    refine .inl ⟨_, _, _, uG (QC.fc hSc rfl), ?_⟩
    conv => whnf
    (repeat' ((fail_if_success (show AWp _ _ _ (Code.region 7 _ _) _ _)); refine Zad ?_))
    refine Zab tok (by rfl) ?_
    conv => whnf
    refine Zc2 (α := Unit) (fun _ => mkS [(3, .bp k2 0), (5, .bp k5 0), (7, .bp (7, 0, 0) 0)] [((1, 7, 0), Zbd n g1), ((3, 7, 0), .row false 1 1 (fun _ => [.rs k0 1 0 n])), ((5, 7, 0), .row false 1 1 (fun _ => [.rs (109, 0, 0) 7 0 o.length])), ((109, 0, 0), insR o), ((7, 0, 0), .row true 7 1 (fun _ => Za2 x))]) (fun _ => True) ?_ ?_
    · refine Zaf rfl (fun hb => ?_) (fun hb => ?_)
      · obtain ⟨hx1, hx2⟩ := hxs hb
        have hx3 := hsv hb
        rw [if_pos hb] at hg1
        ((repeat' first | (refine Zab tok (by rfl) ?_; conv => whnf) | (refine @And.intro (Zaa _ _ _ _) _ ?_ ?_; rotate_left; (conv => whnf); rotate_right)); all_goals (try ((guard_target = Zaa _ _ _ _); refine Zae ?_; (all_goals (try simp only [Zaa, kzz, kz11, kz12, maxL, Zac] at *)); all_goals omega)))
        refine ⟨(), trivial, Weak.list [((1, 7, 0), .old (1, 7, 0), Zbd n g1), ((3, 7, 0), .old (3, 7, 0), .row false 1 1 (fun _ => [.rs k0 1 0 n])), ((5, 7, 0), .old (5, 7, 0), .row false 1 1 (fun _ => [.rs (109, 0, 0) 7 0 o.length])), ((109, 0, 0), .old (109, 0, 0), insR o), ((7, 0, 0), .old (7, 0, 0), .row true 7 1 (fun _ => Za2 x))] rfl (by rfl) ?_ (.old rfl (BLe.rowW (Nat.le_refl _) (fun z hz => Wks.of (by rw [← hg1]; exact upRow (Nat.zero_add _)))) (.old rfl (BLe.rowO rfl) (.old rfl (BLe.rowO rfl) (.old rfl (BLe.refl _) (.old rfl (BLe.refl _) .nil)))))⟩
        ((repeat' first | exact TLes.nil | refine TLes.cons (TLe.eq rfl) ?_); skip)
      · rw [if_neg (by rw [hb]; simp)] at hg1
        (repeat' (refine Zag ?_; conv => whnf))
        refine ⟨(), trivial, Weak.list [((1, 7, 0), .old (1, 7, 0), Zbd n g1), ((3, 7, 0), .old (3, 7, 0), .row false 1 1 (fun _ => [.rs k0 1 0 n])), ((5, 7, 0), .old (5, 7, 0), .row false 1 1 (fun _ => [.rs (109, 0, 0) 7 0 o.length])), ((109, 0, 0), .old (109, 0, 0), insR o), ((7, 0, 0), .old (7, 0, 0), .row true 7 1 (fun _ => Za2 x))] rfl (by rfl) ?_ (.old rfl (BLe.rowW (Nat.le_refl _) (fun z hz => Wks.of (by rw [← hg1]; rfl))) (.old rfl (BLe.rowO rfl) (.old rfl (BLe.rowO rfl) (.old rfl (BLe.refl _) (.old rfl (BLe.refl _) .nil)))))⟩
        ((repeat' first | exact TLes.nil | refine TLes.cons (TLe.eq rfl) ?_); skip)
    rintro ⟨⟩ - τ hw
    refine Zaq hw ?_
    clear hw
    (repeat' first | refine Zad ?_ | (refine Zab tok (by rfl) ?_; conv => whnf))
    refine .inl ⟨_, _, _, uG (QC.fo (rd := []) hAk (Ress.imms rfl) (.inl rfl) rfl), ?_⟩
    conv => whnf
    (repeat' ((fail_if_success (show AWp _ _ _ (Code.region 10 _ _) _ _)); refine Zai ?_))
    refine Zao 53 (fun hl => ?_)
    have hle : ((Zbm x).length : Int) ≤ 9223372036854775807 := hl.2
    clear hl
    refine Zat (fun j : Nat => mkS [(3, .bp k2 0), (5, .bp k5 0), (7, .bp (7, 0, 0) 0), (52, .rs (52, 0, 0) 1 0 (Zbm x).length), (53, iv (Zbm x).length), (54, iv j)] [((1, 7, 0), Zbd n (Zdf g1 ((Zbm x).take j))), ((3, 7, 0), .row false 1 1 (fun _ => [.rs k0 1 0 n])), ((5, 7, 0), .row false 1 1 (fun _ => [.rs (109, 0, 0) 7 0 o.length])), ((109, 0, 0), insR o), ((7, 0, 0), .row true 7 1 (fun _ => Za2 x)), ((52, 0, 0), .row true 1 (Zbm x).length (fun i => [iv ((Zbm x).getD i 0)]))]) (fun j => j ≤ (Zbm x).length) (fun j => (Zbm x).length - j) 0 (Nat.zero_le _) ?_ ?_
    · refine Weak.list [((1, 7, 0), .old (1, 7, 0), Zbd n (Zdf g1 ((Zbm x).take 0))), ((3, 7, 0), .old (3, 7, 0), .row false 1 1 (fun _ => [.rs k0 1 0 n])), ((5, 7, 0), .old (5, 7, 0), .row false 1 1 (fun _ => [.rs (109, 0, 0) 7 0 o.length])), ((109, 0, 0), .old (109, 0, 0), insR o), ((7, 0, 0), .old (7, 0, 0), .row true 7 1 (fun _ => Za2 x)), ((52, 0, 0), .old (52, 0, 0), .row true 1 (Zbm x).length (fun i => [iv ((Zbm x).getD i 0)]))] rfl (by rfl) ?_ (.old rfl (BLe.refl _) (.old rfl (BLe.rowO rfl) (.old rfl (BLe.rowO rfl) (.old rfl (BLe.refl _) (.old rfl (BLe.refl _) (.old rfl (BLe.refl _) .nil))))))
      ((repeat' first | exact TLes.nil | refine TLes.cons (TLe.eq rfl) ?_); skip)
    intro j hj
    (repeat' ((fail_if_success (show AWp _ _ _ (Code.region 11 _ _) _ _)); first | refine Zad ?_ | (refine Zab tok (by rfl) ?_; conv => whnf) | refine Zai ?_ | (refine Zag ?_; conv => whnf) | (refine Zas ?_; conv => whnf) | refine Zaf rfl (fun hb => ?_) (fun hb => ?_)))
    · have hjl : j < (Zbm x).length := by simp only [decide_eq_true_eq] at hb; omega
      clear hb
      have hsucc := upAll_succ (g := g1) hjl
      have hpj := hxa _ (Zf7 0 hjl)
      have hji : (Zbm x).getD (0 + (j : Int).toNat) 0 = (Zbm x).getD j 0 := by simp
      ((repeat' first | (refine Zab tok (by rfl) ?_; conv => whnf) | (refine @And.intro (Zaa _ _ _ _) _ ?_ ?_; rotate_left; (conv => whnf); rotate_right)); all_goals (try ((guard_target = Zaa _ _ _ _); refine Zae ?_; (all_goals (try simp only [Zaa, kzz, kz11, kz12, maxL, Zac] at *)); all_goals omega)))
      refine ⟨j + 1, hjl, by omega, ?_⟩
      refine Weak.list [((1, 7, 0), .old (1, 7, 0), Zbd n (Zdf g1 ((Zbm x).take (j + 1)))), ((3, 7, 0), .old (3, 7, 0), .row false 1 1 (fun _ => [.rs k0 1 0 n])), ((5, 7, 0), .old (5, 7, 0), .row false 1 1 (fun _ => [.rs (109, 0, 0) 7 0 o.length])), ((109, 0, 0), .old (109, 0, 0), insR o), ((7, 0, 0), .old (7, 0, 0), .row true 7 1 (fun _ => Za2 x)), ((52, 0, 0), .old (52, 0, 0), .row true 1 (Zbm x).length (fun i => [iv ((Zbm x).getD i 0)]))] rfl (by rfl) ?_ (.old rfl (BLe.rowW (Nat.le_refl _) (fun z hz => Wks.of ?_)) (.old rfl (BLe.rowO rfl) (.old rfl (BLe.rowO rfl) (.old rfl (BLe.refl _) (.old rfl (BLe.refl _) (.old rfl (BLe.refl _) .nil))))))
      · ((repeat' first | exact TLes.nil | refine TLes.cons (TLe.eq rfl) ?_ | refine TLes.cons (TLe.int ?_) ?_); (all_goals first | ((try (simp only [Zaa, kzz, kz11, kz12, maxL, Zac] at *)); exact wrap64 (by omega) (by omega)) | skip))
      · rw [hsucc]
        exact upRow (by rw [Nat.zero_add]; exact congrArg Int.toNat hji)
    · have hjl : j = (Zbm x).length := by simp only [decide_eq_false_iff_not] at hb; omega
      clear hb
      subst hjl
      rw [hs1]
      refine ⟨lookT [], Weak.list (tl := []) [((1, 7, 0), .old (1, 7, 0), Zbd n (Prod.snd (o, Zdf g1 (Zbm x)))), ((3, 7, 0), .old (3, 7, 0), .row false 1 1 (fun _ => [.rs k0 1 0 n])), ((5, 7, 0), .old (5, 7, 0), .row false 1 1 (fun _ => [.rs (109, 0, 0) 7 0 (List.length (Prod.fst (o, Zdf g1 (Zbm x))))])), ((109, 0, 0), .old (109, 0, 0), insR (Prod.fst (o, Zdf g1 (Zbm x))))] rfl (by rfl) ?_ (.old rfl (BLe.rowW (Nat.le_refl _) (fun z hz => Wks.of (by rw [List.take_length]; rfl))) (.old rfl (BLe.rowO rfl) (.old rfl (BLe.rowO rfl) (.old rfl (BLe.refl _) .nil))))⟩
      exact .nil
  · conv => whnf
    have hgen : ∃ L, (Ze0 l g).1 = L := ⟨_, rfl⟩
    obtain ⟨L, hL⟩ := hgen
    unfold cleanL cleanG
    rw [← hcm] at hL ⊢
    have hLl := hlen l.length
    rw [hL] at hLl ⊢
    (repeat' first | refine Zad ?_ | (refine Zab tok (by rfl) ?_; conv => whnf))
    refine .inr ⟨_, _, _, uG (QH.of (dead := []) [(k0, .old (109, 0, 0), insR L)] (c_ReverseI L) rfl (.old rfl (BLe.refl _) .nil) (.cons (.eq rfl) .nil) [(k0, (109, 0, 0))] rfl (.cons rfl (BLe.refl _) .nil) rfl), ?_⟩
    conv => whnf
    (repeat' first | refine Zad ?_ | (refine Zab tok (by rfl) ?_; conv => whnf) | (refine Zah ?_; conv => whnf))
    exact ⟨_, [(k0, .old k0, Zbd n (cl l.length).2), (k5, .old (109, 0, 0), insR L.reverse)], rfl, rfl, rfl, rfl, .old rfl (BLe.refl _) (.old rfl (BLe.refl _) .nil), .eq (by rw [List.length_reverse]; rfl)⟩
end Go.Proofs.YtngcbpijejbibaaGreat
namespace Go.Proofs.YtngcbpijejbibaaGreat
open Go Dv
set_option maxRecDepth 10000
set_option linter.unusedSimpArgs false
def blkR1 (l : List Zby) : Zam := .row true 14 l.length (fun q => Za8 (l.getD q default))
def funR1 (l : List Func) (c : Nat → AV) : Zam := .row false 3 l.length (fun j => [iv (l.getD j default).params, iv (l.getD j default).regs, c j])
def blkF1 (l : List Func) (p : Nat → Bool) : Zap := famC 1000 (fun j z => bif Nat.beq z 0 && (Nat.blt j l.length && p j) then some (blkR1 (l.getD j default).blocks) else none)
def mem1 (l : List Func) (j : Nat) : AV := .rs (1000, j, 0) 14 0 (l.getD j default).blocks.length
def modH1 (l : List Func) : Zap := orH (Zbg [((900, 0, 0), funR1 l (mem1 l))]) (blkF1 l (fun _ => true))
theorem blkF1_some {l : List Func} {p : Nat → Bool} {j : Dv.Id} {b : Zam} (h : blkF1 l p j = some b) : ∃ i, j = (1000, i, 0) ∧ i < l.length ∧ p i = true ∧ b = blkR1 (l.getD i default).blocks := by
  obtain ⟨a, z, rfl, h3⟩ := famC_some h
  cases e : (Nat.beq z 0 && (Nat.blt a l.length && p a)) with
  | false => rw [e] at h3; cases h3
  | true =>
    rw [e] at h3
    rw [Bool.and_eq_true, Bool.and_eq_true, Nat.blt_eq] at e
    have := Nat.eq_of_beq_eq_true e.1
    subst this
    exact ⟨a, rfl, e.2.1, e.2.2, (Option.some.inj h3).symm⟩
theorem blkF1_at {l : List Func} {p : Nat → Bool} {i : Nat} (h : i < l.length) (hp : p i = true) : blkF1 l p (1000, i, 0) = some (blkR1 (l.getD i default).blocks) := by
  show (bif (Nat.beq 0 0 && (Nat.blt i l.length && p i)) then _ else none) = _
  have : (Nat.beq 0 0 && (Nat.blt i l.length && p i)) = true := by
    rw [Bool.and_eq_true, Bool.and_eq_true, Nat.blt_eq]; exact ⟨rfl, h, hp⟩
  rw [this]; rfl
theorem GB_blk1 {src : Dv.Id → Option Dv.Id} {h h' : Zap} (l : List Zby) : GB src h h' (blkR1 l) (blkR1 l) := GB.rowI (Nat.le_refl _) (fun _ _ => ⟨rfl, rfl⟩)
theorem copyH_sub (fs : List Func) (j : Dv.Id) (b : Zam) (e : modH1 fs j = some b) : (j = (900, 0, 0) ∧ b = funR1 fs (mem1 fs)) ∨ ∃ i, j = (1000, i, 0) ∧ i < fs.length ∧ b = blkR1 (fs.getD i default).blocks := by
  rcases orH_some e with e | ⟨_, e⟩
  · simp only [Zbg] at e
    cases e2 : idEq (900, 0, 0) j with
    | false => rw [e2] at e; cases e
    | true => have := Zbb.1 e2; subst this; rw [e2] at e; cases e; exact .inl ⟨rfl, rfl⟩
  · obtain ⟨i, rfl, h1, _, h2⟩ := blkF1_some e
    exact .inr ⟨i, rfl, h1, h2⟩
theorem modH1_at {l : List Func} {i : Nat} (h : i < l.length) : modH1 l (1000, i, 0) = some (blkR1 (l.getD i default).blocks) := (show blkF1 l (fun _ => true) (1000, i, 0) = _ from blkF1_at h rfl)
theorem c_Copy1 (fs : List Func) : HF Tryz.prog 12 [.agg (Zar ⟨fs⟩)] (.agg [.rs (900, 0, 0) 3 0 fs.length]) (modH1 fs) := by
  refine (c_Copy fs).weak (fun j => some j) (fun j j' i _ _ h1 h2 => some_inj j j' i h1 h2) (fun j b e => ?_) (.agg (.cons (.rs (b := funR1 fs (mem1 fs)) rfl rfl rfl rfl) .nil))
  rcases copyH_sub fs j b e with ⟨rfl, rfl⟩ | ⟨i, rfl, hi, rfl⟩
  · refine HOk.mk rfl (b0 := funR fs fs.length (fun _ => .any)) rfl (GB.row (Nat.le_refl _) (fun j hj => .cons (.imm rfl) (.cons (.imm rfl) (.cons ?_ .nil))) (fun e => by cases e))
    exact .cc (Zbn hj) rfl (.rs (modH1_at hj) rfl rfl rfl)
  · refine HOk.mk rfl (b0 := blkR i (fs.getD i default).blocks (fs.getD i default).blocks.length (fun _ => .any)) (show treeF fs fs.length 0 (1000, i, 0) = _ from Zbk hi) (GB.row (Nat.le_refl _) (fun q hq => ?_) (fun _ _ _ => rfl))
    refine .cons (.imm rfl) (.cons (.imm rfl) (.cons (.imm rfl) (.cons (.imm rfl) (.cons (.imm rfl) (.cons ?_ (GVs.imm rfl))))))
    refine .cc (Zbn hq) rfl (.frz (k := ((fs.getD i default).blocks.getD q default).ins.length) (f := fun j => Za2 (((fs.getD i default).blocks.getD q default).ins.getD j default)) (imm := true) (fun j hj e => ?_) (show treeF fs fs.length 0 (1001, i, q) = _ from Zbe (.inl ⟨hi, hq⟩)) (Nat.le_of_eq (Nat.zero_add _)) rfl (fun x hx => GVs.eqI rfl (by rw [Nat.zero_add])) (fun _ _ => rfl))
    cases e
    cases hj
end Go.Proofs.YtngcbpijejbibaaGreat
namespace Go.Proofs.YtngcbpijejbibaaGreat
open Go Dv
set_option maxRecDepth 10000
set_option linter.unusedSimpArgs false
noncomputable def gEnds (f : Func) (q : Nat) : Nat → Bool := Zdf (atB (Zbs f) q) (Za3 (f.blocks.getD q default).fin)
noncomputable def blkC (f : Func) (q : Nat) : Zby := { f.blocks.getD q default with ins := cleanL (f.blocks.getD q default).ins (gEnds f q) }
noncomputable def cutB (f : Func) (k : Nat) : List Zby := (List.range f.blocks.length).map fun q => if q < k then blkC f q else f.blocks.getD q default
noncomputable def Zcc (f : Func) : Func := { f with blocks := cutB f (Zbs f).length }
theorem Zdl (f : Func) (k : Nat) : (cutB f k).length = f.blocks.length := by simp [cutB]
theorem cutB_at {f : Func} {k q : Nat} (h : q < f.blocks.length) : (cutB f k).getD q default = if q < k then blkC f q else f.blocks.getD q default := by
  unfold cutB
  rw [List.getD_eq_getElem?_getD, List.getElem?_map, List.getElem?_range h]; rfl
theorem cutB_zero (f : Func) : cutB f 0 = f.blocks := by
  apply List.ext_getElem
  · exact Zdl f 0
  · intro i h1 h2
    have := cutB_at (f := f) (k := 0) h2
    rw [if_neg (Nat.not_lt_zero i)] at this
    simpa [List.getD_eq_getElem?_getD, h1, h2] using this
theorem foundB_len (f : Func) : (Zbs f).length ≤ f.blocks.length := by
  unfold Zbs
  split
  · exact Nat.le_of_eq (Zex f _).1.l2
  · exact Nat.zero_le _
def famK (n R k : Nat) (g : Nat → Nat → Bool) : Zap := famC 1002 (fun p q => bif (Nat.ble k p && Nat.blt p n) && Nat.beq q 0 then some (Zbd R (g p)) else none)
abbrev rowK (n R k : Nat) : Zam := .row false 1 n (fun q => [bif Nat.ble k q then .rs (1002, q, 0) 1 0 R else .any])
theorem famK_some {n R k : Nat} {g : Nat → Nat → Bool} {j : Dv.Id} {b : Zam} (h : famK n R k g j = some b) : ∃ p, j = (1002, p, 0) ∧ k ≤ p ∧ p < n ∧ b = Zbd R (g p) := by
  obtain ⟨p, q, rfl, h2⟩ := famC_some h
  cases e : ((Nat.ble k p && Nat.blt p n) && Nat.beq q 0) with
  | false => rw [e] at h2; cases h2
  | true =>
    rw [e] at h2
    rw [Bool.and_eq_true, Bool.and_eq_true, Nat.blt_eq, Nat.ble_eq] at e
    have := Nat.eq_of_beq_eq_true e.2
    subst this
    exact ⟨p, rfl, e.1.1, e.1.2, (Option.some.inj h2).symm⟩
theorem Ze2 {n R k p : Nat} {g : Nat → Nat → Bool} (hk : k ≤ p) (h : p < n) : famK n R k g (1002, p, 0) = some (Zbd R (g p)) := by
  show (bif (Nat.ble k p && Nat.blt p n) && Nat.beq 0 0 then _ else none) = _
  rw [show Nat.blt p n = true from by rw [Nat.blt_eq]; exact h, show Nat.ble k p = true from by rw [Nat.ble_eq]; exact hk]; rfl
theorem keepK {src : Dv.Id → Option Dv.Id} {h h' : Zap} {n R k : Nat} {g : Nat → Nat → Bool} (hs : ∀ p, k ≤ p → src (1002, p, 0) = some (1002, p, 0)) (hh : ∀ p, k ≤ p → p < n → h (1002, p, 0) = some (Zbd R (g p))) : ∀ j b, famK n R k g j = some b → HOk src h h' j b := by
  intro j b e
  obtain ⟨p, rfl, hk, hp, rfl⟩ := famK_some e
  exact HOk.mk (hs p hk) (hh p hk hp) (GB.rowI (Nat.le_refl _) (fun _ _ => ⟨rfl, rfl⟩))
theorem GB_rowK {src : Dv.Id → Option Dv.Id} {h h' : Zap} {n R k k' : Nat} {b : Nat → Zam} (hk : k ≤ k') (hs : ∀ p, k' ≤ p → src (1002, p, 0) = some (1002, p, 0)) (hh : ∀ p, k' ≤ p → p < n → h' (1002, p, 0) = some (b p)) : GB src h h' (rowK n R k) (rowK n R k') :=
  GB.row (Nat.le_refl _) (fun q hq => by
    by_cases e : k' ≤ q
    · exact .cons (.cc (x' := .rs (1002, q, 0) 1 0 R) (y' := .rs (1002, q, 0) 1 0 R) (by rw [show Nat.ble k q = true from by rw [Nat.ble_eq]; omega]; rfl) (by rw [show Nat.ble k' q = true from by rw [Nat.ble_eq]; exact e]; rfl) (.rs (hh q e hq) (hs q e) rfl rfl)) .nil
    · refine .cons ?_ .nil
      rw [show Nat.ble k' q = false from by rw [Bool.eq_false_iff]; intro h; rw [Nat.ble_eq] at h; exact e h]
      exact .any) (fun e => by cases e)
theorem modH1_domX {l : List Func} {i : Dv.Id} (h : (modH1 l i).isSome = true) : i = (900, 0, 0) ∨ ∃ j, i = (1000, j, 0) := by
  cases e : modH1 l i with
  | none => rw [e] at h; cases h
  | some b =>
    rcases copyH_sub l i b e with ⟨rfl, _⟩ | ⟨j, rfl, _⟩
    · exact .inl rfl
    · exact .inr ⟨j, rfl⟩
abbrev fcl (f : Func) : List AV := [iv f.params, iv f.regs, .rs (901, 0, 0) 14 0 f.blocks.length]
set_option maxHeartbeats 4000000 in
theorem c_idleF (f : Func) : FC Tryz.prog 13 [.agg (Za1 f)] (.agg (Za1 (Zcc f))) := by
  refine Zan tok Tryz.func13 rfl (by decide +kernel) (Nat.le_of_ble_eq_true rfl) ?_
  refine Zao 0 (fun hl => ?_)
  have hmx : maxL = 4294967296 := rfl
  have hl0 : f.blocks.length ≤ maxL := hl.2.2.1.1
  clear hl
  (repeat' first | refine Zad ?_ | (refine Zab tok (by rfl) ?_; conv => whnf))
  refine .inr ⟨_, _, _, uG (QH.giveF (rd := [(9, 0, 0)]) (c_Copy1 [f]) (.cons (.agg (.cons (.rsN rfl (List.mem_singleton.2 rfl) (Nat.le_refl _) rfl (ltS (Ress.imms rfl) lt0)) .nil)) .nil) (fun i hi => by rcases modH1_domX hi with rfl | ⟨j, rfl⟩ <;> rfl)), ?_⟩
  conv => whnf
  have hone : [f].length = 1 := rfl
  ((repeat' ((fail_if_success (show AWp _ _ _ (Code.region 2 _ _) _ _)); first | refine Zad ?_ | (refine @And.intro (Zaa _ _ _ _) _ ?_ ?_; rotate_left; (conv => whnf); rotate_right))); all_goals (try ((guard_target = Zaa _ _ _ _); refine Zae ?_; (all_goals (try simp only [Zaa, kzz, kz11, kz12, maxL, Zac] at *)); all_goals omega)))
  have hc1 : modH1 [f] (1000, 0, 0) = some (blkR1 f.blocks) := modH1_at (l := [f]) (i := 0) Nat.zero_lt_one
  refine Zaq (Weak.fam (L := []) (tl := [(1, .bp (1, 0, 0) 0), (2, .bp (2, 0, 0) 0)]) (hl := [((1, 0, 0), .row false 3 1 (fun _ => fcl f)), ((2, 0, 0), Zak [iv 0, iv 0, .nsl]), ((901, 0, 0), blkR1 (cutB f 0))]) (F := noH) [((901, 0, 0), some (1000, 0, 0))] rfl (fun c hc => by simp only [tgts, List.mem_singleton] at hc; subst hc; exact .inl rfl) ?_ ?_ noF (fun i hi => by cases hi)) ?_
  · (repeat' first | exact TLg.nil | refine TLg.cons (GV.bp rfl rfl) ?_)
    all_goals rfl
  · refine .old rfl rfl (GB.one ?_ (fun e => by cases e)) (.old rfl rfl (GB.one (GVs.imm rfl) (fun _ => rfl)) (.old rfl ?_ (GB_blk1 _) .nil))
    · exact .cons (.imm rfl) (.cons (.imm rfl) (.cons (.rs rfl rfl rfl rfl) .nil))
    · dsimp only [updH, bigH]
      rw [hc1, cutB_zero]; rfl
  (repeat' (refine Zab tok (by rfl) ?_; conv => whnf))
  have hres : ∀ (h : Zap), h (901, 0, 0) = some (blkR1 (cutB f 0)) → Ress h [(901, 0, 0)] [.agg (fcl f)] [.agg (Za1 f)] := fun h h901 => by
    rw [cutB_zero] at h901
    exact .cons (.agg (.cons (.imm rfl) (.cons (.imm rfl) (.cons (.row h901 (.head _) rfl rfl (fun q hq => rfl)) .nil)))) .nil
  refine .inr ⟨_, _, _, uG (QH.lendF (c_BehindX f) (hres _ rfl) (fun i hi => ?_) rfl (fun j b hb => ?_)), ?_⟩
  · rcases lookNX hi with h | h
    · simp only [List.map_cons, List.map_nil, List.mem_cons, List.not_mem_nil, or_false] at h
      subst h; rfl
    · obtain ⟨b, hb⟩ := Option.isSome_iff_exists.1 h
      obtain ⟨p, rfl, _⟩ := famB_some hb
      rfl
  · rcases orH_some hb with h | ⟨_, h⟩
    · simp only [Zbg] at h
      cases e2 : idEq u3 j with
      | false => rw [e2] at h; cases h
      | true => rw [e2] at h; cases h; exact fun _ _ => rfl
    · obtain ⟨p, _, _, rfl⟩ := famB_some h
      exact fun _ _ => rfl
  conv => whnf
  have hnl := foundB_len f
  have hgen : ∃ nB, (Zbs f).length = nB := ⟨_, rfl⟩
  obtain ⟨nB, hnB⟩ := hgen
  have hidl : Zcc f = { f with blocks := cutB f nB } := by unfold Zcc; rw [hnB]
  rw [hnB] at hnl
  (repeat' ((fail_if_success (show AWp _ _ _ (Code.region 3 _ _) _ _)); refine Zai ?_))
  refine Zat (fun k : Nat => mkF [(1, .bp (1, 0, 0) 0), (2, .bp (2, 0, 0) 0), (16, .rs u3 1 0 nB), (17, iv nB), (18, iv k)] [((1, 0, 0), .row false 3 1 (fun _ => fcl f)), ((2, 0, 0), Zak [iv 0, iv 0, .nsl]), ((901, 0, 0), blkR1 (cutB f k)), ((903, 0, 0), rowK nB f.regs.toNat k)] (famK nB f.regs.toNat k (atB (Zbs f)))) (fun k => k ≤ nB) (fun k => nB - k) 0 (Nat.zero_le _) ?_ ?_
  · rw [hnB]
    refine Weak.fam [] rfl (fun i hi => by cases hi) ?_ ?_ (keepK (fun _ _ => rfl) (fun p _ hp => ?_)) (fun i hi => by cases hi)
    · (repeat' first | exact TLg.nil | refine TLg.cons (GV.imm rfl) ?_ | refine TLg.cons (GV.bp rfl rfl) ?_ | refine TLg.cons (GV.rs rfl rfl ?_ ?_) ?_)
      all_goals rfl
    · exact .old rfl rfl (GB.one (.cons (.imm rfl) (.cons (.imm rfl) (.cons (.rs rfl rfl rfl rfl) .nil))) (fun e => by cases e)) (.old rfl rfl (GB.one (GVs.imm rfl) (fun _ => rfl)) (.old rfl rfl (GB_blk1 _) (.old rfl rfl (GB.row (Nat.le_refl _) (fun q hq => .cons (.cc rfl rfl (.rs (Ze2 (Nat.zero_le _) hq) rfl rfl rfl)) .nil) (fun e => by cases e)) .nil)))
    · exact bigH_atX (u := orH (Zbg [(u3, rowB nB f.regs.toNat)]) (famB nB f.regs.toNat (atB (Zbs f)))) (Zcf hp)
  intro k hk
  (repeat' ((fail_if_success (show AWp _ _ _ (Code.region 4 _ _) _ _)); first | refine Zad ?_ | (refine Zab tok (by rfl) ?_; conv => whnf) | refine Zai ?_ | (refine Zag ?_; conv => whnf) | (refine Zas ?_; conv => whnf) | (refine Zah ?_; conv => whnf) | refine Zaf rfl (fun hb => ?_) (fun hb => ?_)))
  · have hkn : k < nB := by simp only [decide_eq_true_eq] at hb; omega
    clear hb
    have hkl : k < f.blocks.length := by omega
    have hw : Zdy f = true := by
      cases h : Zdy f with
      | true => rfl
      | false =>
        exfalso
        obtain ⟨_, e2⟩ := found_no h
        rw [e2] at hnB
        simp only [List.length_nil] at hnB
        omega
    obtain ⟨hr0, hr2, hfb⟩ := whole_fun hw
    obtain ⟨ps, hfun⟩ := whole_ok hw
    have hok := okL hfun hkl
    have hgen : ∃ b, f.blocks.getD k default = b := ⟨_, rfl⟩
    obtain ⟨b, hbk⟩ := hgen
    have hz : 0 + (k : Int).toNat = k := by simp
    have hget : (cutB f k).getD (0 + (k : Int).toNat) default = b := by
      rw [hz, cutB_at hkl, if_neg (Nat.lt_irrefl k), hbk]
    have hcl := Zdl f k
    rw [hbk] at hok
    have hgen : ∃ g0, atB (Zbs f) k = g0 := ⟨_, rfl⟩
    obtain ⟨g0, hg0⟩ := hgen
    have hEn : gEnds f k = Zdf g0 (Za3 b.fin) := by unfold gEnds; rw [hbk, hg0]
    have hout : famK nB f.regs.toNat (k + 1) (atB (Zbs f)) (1002, k, 0) = none := by
      show (bif (Nat.ble (k + 1) k && Nat.blt k nB) && Nat.beq 0 0 then _ else none) = _
      rw [show Nat.ble (k + 1) k = false from by rw [Bool.eq_false_iff]; intro h; rw [Nat.ble_eq] at h; omega]; rfl
    ((repeat' ((fail_if_success (show AWp _ _ _ (Code.region 5 _ _) _ _)); first | (refine Zab tok (by rfl) ?_; conv => whnf) | (refine @And.intro (Zaa _ _ _ _) _ ?_ ?_; rotate_left; (conv => whnf); rotate_right))); all_goals (try ((guard_target = Zaa _ _ _ _); refine Zae ?_; (all_goals (try simp only [Zaa, kzz, kz11, kz12, maxL, Zac] at *)); all_goals omega)))
    refine fAV (y := .rs (1002, k, 0) 1 0 f.regs.toNat) (show (bif Nat.ble k (0 + (k : Int).toNat) then AV.rs (1002, 0 + (k : Int).toNat, 0) 1 0 f.regs.toNat else .any) = _ by rw [hz, show Nat.ble k k = true from by rw [Nat.ble_eq]; exact Nat.le_refl k]; rfl) ?_
    conv => whnf
    (repeat' ((fail_if_success (show AWp _ _ _ (Code.region 5 _ _) _ _)); refine Zad ?_))
    refine Zaq (Weak.fam (L := []) (tl := [(1, .bp (1, 0, 0) 0), (2, .bp (2, 0, 0) 0), (3, iv k), (4, .rs (902, 0, 0) 1 0 f.regs.toNat), (16, .rs u3 1 0 nB), (17, iv nB), (18, iv k)]) (hl := [((1, 0, 0), .row false 3 1 (fun _ => fcl f)), ((2, 0, 0), Zak [iv 0, iv 0, .nsl]), ((901, 0, 0), blkR1 (cutB f k)), ((903, 0, 0), rowK nB f.regs.toNat (k + 1)), ((902, 0, 0), Zbd f.regs.toNat g0)]) (F := (famK nB f.regs.toNat (k + 1) (atB (Zbs f)))) [((902, 0, 0), some (1002, k, 0))] rfl (fun c hc => by simp only [tgts, List.mem_singleton] at hc; subst hc; exact .inl hout) ?_ ?_ (keepK (fun _ _ => rfl) (fun p h1 hp => ?_)) (fun i hi => by cases hi)) ?_
    · refine .cons (.bp rfl rfl) (.cons (.bp rfl rfl) (.cons (.imm rfl) (.cons ?_ (.cons (.rs rfl rfl rfl rfl) (.cons (.imm rfl) (.cons (.imm rfl) .nil))))))
      exact .rs rfl srcL_hit rfl rfl
    · exact .old rfl rfl (GB.one (.cons (.imm rfl) (.cons (.imm rfl) (.cons (.rs rfl rfl rfl rfl) .nil))) (fun e => by cases e)) (.old rfl rfl (GB.one (GVs.imm rfl) (fun _ => rfl)) (.old rfl rfl (GB_blk1 _) (.old rfl rfl (GB_rowK (Nat.le_succ k) (fun _ _ => rfl) (fun p h1 hp => Ze2 h1 hp)) (.old rfl (Ze2 (Nat.le_refl k) hkn) (GB.rowI (Nat.le_refl _) (fun q hq => ⟨rfl, by rw [hg0]⟩)) .nil))))
    · exact Ze2 (Nat.le_of_succ_le h1) hp
    have hcE : ∀ b', b' = b → FOi 27 [.agg (Zdk b'.fin)] (Za3 b.fin) := fun b' e => by rw [e]; exact c_EndAsks _
    ((repeat' ((fail_if_success (show AWp _ _ _ (Code.region 7 _ _) _ _)); first | refine Zad ?_ | (refine Zab tok (by rfl) ?_; conv => whnf) | (refine @And.intro (Zaa _ _ _ _) _ ?_ ?_; rotate_left; (conv => whnf); rotate_right))); all_goals (try ((guard_target = Zaa _ _ _ _); refine Zae ?_; (all_goals (try simp only [Zaa, kzz, kz11, kz12, maxL, Zac] at *)); all_goals omega)))
    refine .inl ⟨_, _, _, uG (QC.fo (rd := []) (hcE ((cutB f k).getD (0 + (k : Int).toNat) default) hget) (Ress.imms rfl) (.inl rfl) rfl), ?_⟩
    conv => whnf
    (repeat' ((fail_if_success (show AWp _ _ _ (Code.region 7 _ _) _ _)); refine Zai ?_))
    refine Zao 32 (fun hl => ?_)
    have hle : ((Za3 b.fin).length : Int) ≤ 9223372036854775807 := hl.2
    clear hl
    refine Zat (fun j : Nat => mkF [(1, .bp (1, 0, 0) 0), (2, .bp (2, 0, 0) 0), (3, iv k), (4, .rs (902, 0, 0) 1 0 f.regs.toNat), (5, .rp (901, 0, 0) 14 k 0), (16, .rs u3 1 0 nB), (17, iv nB), (18, iv k), (31, .rs (31, 0, 0) 1 0 (Za3 b.fin).length), (32, iv (Za3 b.fin).length), (33, iv j)] [((1, 0, 0), .row false 3 1 (fun _ => fcl f)), ((2, 0, 0), Zak [iv 0, iv 0, .nsl]), ((901, 0, 0), blkR1 (cutB f k)), ((903, 0, 0), rowK nB f.regs.toNat (k + 1)), ((902, 0, 0), Zbd f.regs.toNat (Zdf g0 ((Za3 b.fin).take j))), ((31, 0, 0), .row true 1 (Za3 b.fin).length (fun i => [iv ((Za3 b.fin).getD i 0)]))] (famK nB f.regs.toNat (k + 1) (atB (Zbs f)))) (fun j => j ≤ (Za3 b.fin).length) (fun j => (Za3 b.fin).length - j) 0 (Nat.zero_le _) ?_ ?_
    · refine Weak.fam [] rfl (fun i hi => by cases hi) ?_ ?_ (keepK (fun _ _ => rfl) (fun p h1 hp => Ze2 h1 hp)) (fun i hi => by cases hi)
      · (repeat' first | exact TLg.nil | refine TLg.cons (GV.imm rfl) ?_ | refine TLg.cons (GV.bp rfl rfl) ?_ | refine TLg.cons (GV.rs rfl rfl ?_ ?_) ?_ | refine TLg.cons (GV.rp rfl rfl ?_) ?_)
        all_goals first | rfl | exact hz
      · exact .old rfl rfl (GB.one (.cons (.imm rfl) (.cons (.imm rfl) (.cons (.rs rfl rfl rfl rfl) .nil))) (fun e => by cases e)) (.old rfl rfl (GB.one (GVs.imm rfl) (fun _ => rfl)) (.old rfl rfl (GB_blk1 _) (.old rfl rfl (GB_rowK (Nat.le_refl _) (fun _ _ => rfl) (fun p h1 hp => Ze2 h1 hp)) (.old rfl rfl (GB.rowI (Nat.le_refl _) (fun q hq => ⟨rfl, rfl⟩)) (.old rfl rfl (GB.rowI (Nat.le_refl _) (fun q hq => ⟨rfl, rfl⟩)) .nil)))))
    intro j hj
    ((repeat' ((fail_if_success (show AWp _ _ _ (Code.region 8 _ _) _ _)); first | refine Zad ?_ | (refine Zab tok (by rfl) ?_; conv => whnf) | refine Zai ?_ | (refine Zag ?_; conv => whnf) | (refine Zas ?_; conv => whnf) | refine Zaf rfl (fun hb => ?_) (fun hb => ?_) | (refine @And.intro (Zaa _ _ _ _) _ ?_ ?_; rotate_left; (conv => whnf); rotate_right))); all_goals (try ((guard_target = Zaa _ _ _ _); refine Zae ?_; (all_goals (try simp only [Zaa, kzz, kz11, kz12, maxL, Zac] at *)); all_goals omega)))
    · have hjl : j < (Za3 b.fin).length := by simp only [decide_eq_true_eq] at hb; omega
      clear hb
      have hsucc := upAll_succ (g := g0) hjl
      have hpj := hok.ends _ (Zf7 0 hjl)
      have hji : (Za3 b.fin).getD (0 + (j : Int).toNat) 0 = (Za3 b.fin).getD j 0 := by simp
      ((repeat' first | (refine Zab tok (by rfl) ?_; conv => whnf) | (refine @And.intro (Zaa _ _ _ _) _ ?_ ?_; rotate_left; (conv => whnf); rotate_right)); all_goals (try ((guard_target = Zaa _ _ _ _); refine Zae ?_; (all_goals (try simp only [Zaa, kzz, kz11, kz12, maxL, Zac] at *)); all_goals omega)))
      refine ⟨j + 1, hjl, by omega, ?_⟩
      refine Weak.fam [] rfl (fun i hi => by cases hi) ?_ ?_ (keepK (fun _ _ => rfl) (fun p h1 hp => Ze2 h1 hp)) (fun i hi => by cases hi)
      · (repeat' first | exact TLg.nil | refine TLg.cons (GV.imm rfl) ?_ | refine TLg.cons (GV.bp rfl rfl) ?_ | refine TLg.cons (GV.rs rfl rfl ?_ ?_) ?_ | refine TLg.cons (GV.int ?_) ?_)
        all_goals first | rfl | exact wrap64 (by omega) (by omega)
      · refine .old rfl rfl (GB.one (.cons (.imm rfl) (.cons (.imm rfl) (.cons (.rs rfl rfl rfl rfl) .nil))) (fun e => by cases e)) (.old rfl rfl (GB.one (GVs.imm rfl) (fun _ => rfl)) (.old rfl rfl (GB_blk1 _) (.old rfl rfl (GB_rowK (Nat.le_refl _) (fun _ _ => rfl) (fun p h1 hp => Ze2 h1 hp)) (.old rfl rfl (GB.row (Nat.le_refl _) (fun q hq => GVs.eqI rfl ?_) (fun _ _ _ => rfl)) (.old rfl rfl (GB.rowI (Nat.le_refl _) (fun q hq => ⟨rfl, rfl⟩)) .nil)))))
        rw [hsucc]
        exact upRow (by rw [Nat.zero_add]; exact congrArg Int.toNat hji)
    · have hjl : j = (Za3 b.fin).length := by simp only [decide_eq_false_iff_not] at hb; omega
      clear hb
      subst hjl
      rw [List.take_length]
      rw [← hEn]
      have hcC : ∀ b', b' = b → HC Tryz.prog [k0] 28 [(k0, Zbd f.regs.toNat (gEnds f k))] [inss b'.ins, .rs k0 1 0 f.regs.toNat] (.rs k5 7 0 (blkC f k).ins.length) [(k0, Zbd f.regs.toNat (cleanG b.ins (gEnds f k))), (k5, insR (blkC f k).ins)] := fun b' e => by
        have e2 : (blkC f k).ins = cleanL b.ins (gEnds f k) := by unfold blkC; rw [hbk]
        rw [e, e2]
        exact c_cleaned b.ins f.regs.toNat (gEnds f k) (fun x hx p hp => by have := hok.asks x hx p hp; omega) (fun x hx h => by have := hok.sets x hx h; omega)
      have hget2 : (cutB f k).getD k default = b := by rw [hz] at hget; exact hget
      skip
      refine .inr ⟨_, _, _, uG (QH.of (dead := []) [(k0, .old (902, 0, 0), Zbd f.regs.toNat (gEnds f k))] (hcC ((cutB f k).getD k default) hget2) rfl (.old rfl (BLe.refl _) .nil) (.cons (.eq rfl) (.cons (.eq rfl) .nil)) [(k0, (902, 0, 0)), (k5, (47, 0, 0))] rfl (.cons rfl (BLe.refl _) (.cons rfl (BLe.refl _) .nil)) rfl), ?_⟩
      conv => whnf
      ((repeat' first | (refine Zab tok (by rfl) ?_; conv => whnf) | (refine @And.intro (Zaa _ _ _ _) _ ?_ ?_; rotate_left; (conv => whnf); rotate_right)); all_goals (try ((guard_target = Zaa _ _ _ _); refine Zae ?_; (all_goals (try simp only [Zaa, kzz, kz11, kz12, maxL, Zac] at *)); all_goals omega)))
      refine ⟨k + 1, hkn, by omega, ?_⟩
      refine Weak.fam [] rfl (fun i hi => by cases hi) ?_ ?_ (keepK (fun _ _ => rfl) (fun p h1 hp => ?_)) (fun i hi => by cases hi)
      · (repeat' first | exact TLg.nil | refine TLg.cons (GV.imm rfl) ?_ | refine TLg.cons (GV.bp rfl rfl) ?_ | refine TLg.cons (GV.rs rfl rfl ?_ ?_) ?_ | refine TLg.cons (GV.int ?_) ?_)
        all_goals first | rfl | exact wrap64 (by omega) (by omega)
      · refine .old rfl rfl (GB.one (.cons (.imm rfl) (.cons (.imm rfl) (.cons (.rs rfl rfl rfl rfl) .nil))) (fun e => by cases e)) (.old rfl rfl (GB.one (GVs.imm rfl) (fun _ => rfl)) (.old rfl rfl (GB.row (Nat.le_of_eq (by rw [Zdl, Zdl])) (fun q hq => GVs.upd (fun e => ?_) (fun e => ?_)) (fun _ _ _ => rfl)) (.old rfl rfl (GB_rowK (Nat.le_refl _) (fun _ _ => rfl) (fun p h1 hp => Ze2 h1 hp)) .nil)))
        · rw [Zdl] at hq
          have e3 : { b with ins := (blkC f k).ins } = blkC f k := by unfold blkC; rw [hbk]
          rw [e, show (cutB f (k + 1)).getD k default = blkC f k from (cutB_at hkl).trans (if_pos (Nat.lt_succ_self k)), hget2, ← e3]
          generalize (blkC f k).ins = L
          exact .cons (.imm rfl) (.cons (.imm rfl) (.cons (.imm rfl) (.cons (.imm rfl) (.cons (.imm rfl) (.cons (.frz (hd_of rfl (fun j hj => by obtain ⟨b, hb⟩ := Option.isSome_iff_exists.1 hj; obtain ⟨p, rfl, _⟩ := famK_some hb; exact fun h => by cases h)) rfl (Nat.le_of_eq (Nat.zero_add _)) rfl (fun x hx => GVs.eqI rfl (by rw [Nat.zero_add]; rfl)) (fun _ _ => rfl)) (GVs.imm rfl))))))
        · rw [Zdl] at hq
          refine GVs.eqI rfl ?_
          rw [cutB_at hq, cutB_at hq]
          by_cases h1 : q < k
          · rw [if_pos h1, if_pos (by omega)]
          · rw [if_neg h1, if_neg (by omega)]
      · show Option.map _ (famK nB f.regs.toNat (k + 1) (atB (Zbs f)) (1002, p, 0)) = _
        rw [Ze2 h1 hp]; rfl
  · have hkn : k = nB := by simp only [decide_eq_false_iff_not] at hb; omega
    clear hb
    subst hkn
    refine ⟨_, rfl, ?_⟩
    rw [hidl]
    exact Rel.agg (.cons (Rel.int rfl) (.cons (Rel.int rfl) (.cons (Rel.row rfl (Zdl f k).symm (Zdl f k).symm (fun z _ => rfl)) .nil)))
end Go.Proofs.YtngcbpijejbibaaGreat
namespace Go.Proofs.YtngcbpijejbibaaGreat
open Go Dv
set_option maxRecDepth 10000
set_option linter.unusedSimpArgs false
end Go.Proofs.YtngcbpijejbibaaGreat
namespace Go.Proofs.YtngcbpijejbibaaGreat
open Go Dv
set_option maxRecDepth 10000
set_option linter.unusedSimpArgs false
end Go.Proofs.YtngcbpijejbibaaGreat
namespace Go.Proofs.YtngcbpijejbibaaGreat
open Go Dv
set_option maxRecDepth 10000
set_option linter.unusedSimpArgs false
end Go.Proofs.YtngcbpijejbibaaGreat
namespace Go.Proofs.YtngcbpijejbibaaGreat
open Go Dv
set_option maxRecDepth 10000
set_option linter.unusedSimpArgs false
section
variable (B : Zby → Zby)
def mapB (l : List Zby) (k : Nat) : List Zby := (List.range l.length).map fun q => if q < k then B (l.getD q default) else l.getD q default
end
theorem range_getD {α : Type} (d : α) (f : Nat → α) {n i : Nat} (h : i < n) : ((List.range n).map f).getD i d = f i := by
  simp [List.getD_eq_getElem?_getD, h]
def errM (m : Zal) : Int := if Zbc m = true then 0 else 1
end Go.Proofs.YtngcbpijejbibaaGreat
namespace Go.Proofs.YtngcbpijejbibaaGreat
open Go Dv
set_option maxRecDepth 10000
set_option linter.unusedSimpArgs false
end Go.Proofs.YtngcbpijejbibaaGreat
namespace Go.Proofs.YtngcbpijejbibaaGreat
open Go Dv
set_option maxRecDepth 10000
set_option linter.unusedSimpArgs false
theorem c_Copy0 (fs : List Func) : HF Tryz.prog 12 [.agg (Zar ⟨fs⟩)] (.agg [.rs (900, 0, 0) 3 0 fs.length]) (Zbg [((900, 0, 0), .row true 3 fs.length (fun j => Za1 (fs.getD j default)))]) := by
  refine (c_Copy1 fs).weak (fun j => some j) (fun j j' i _ _ h1 h2 => some_inj j j' i h1 h2) (fun j b e => ?_) (.agg (.cons (.rs (b := .row true 3 fs.length (fun j => Za1 (fs.getD j default))) rfl rfl rfl rfl) .nil))
  have hj : j = (900, 0, 0) ∧ b = .row true 3 fs.length (fun j => Za1 (fs.getD j default)) := by
    simp only [Zbg] at e
    cases e2 : idEq (900, 0, 0) j with
    | false => rw [e2] at e; cases e
    | true => have := Zbb.1 e2; subst this; rw [e2] at e; cases e; exact ⟨rfl, rfl⟩
  obtain ⟨rfl, rfl⟩ := hj
  refine HOk.mk rfl (b0 := funR1 fs (mem1 fs)) rfl (GB.row (Nat.le_refl _) (fun j hj => .cons (.imm rfl) (.cons (.imm rfl) (.cons ?_ .nil))) (fun _ _ _ => rfl))
  exact .frz (k := (fs.getD j default).blocks.length) (f := fun q => Za8 ((fs.getD j default).blocks.getD q default)) (imm := true) (fun j hj e => by cases e; cases hj) (modH1_at hj) (Nat.le_of_eq (Nat.zero_add _)) rfl (fun x hx => GVs.eqI rfl (by rw [Nat.zero_add])) (fun _ _ => rfl)
end Go.Proofs.YtngcbpijejbibaaGreat
namespace Go.Proofs.YtngcbpijejbibaaGreat
open Go Dv
set_option maxRecDepth 10000
set_option linter.unusedSimpArgs false
noncomputable def Zeu (m : Zal) : Zal := if Zbc m = true then ⟨m.funcs.map Zcc⟩ else m
noncomputable def curX (l : List Func) (n : Nat) : List Func := (List.range l.length).map fun j => if j < n then Zcc (l.getD j default) else l.getD j default
theorem curX_len (l : List Func) (n : Nat) : (curX l n).length = l.length := by simp [curX]
theorem curX_at {l : List Func} {n q : Nat} (h : q < l.length) : (curX l n).getD q default = if q < n then Zcc (l.getD q default) else l.getD q default := range_getD _ _ h
theorem curX_zero (l : List Func) : curX l 0 = l := by
  refine Zc1 default (by simp [curX]) (fun i hi => ?_)
  rw [curX_len] at hi
  rw [curX_at hi, if_neg (Nat.not_lt_zero i)]
theorem curX_all (l : List Func) : curX l l.length = l.map Zcc := by
  refine Zc1 default (by simp [curX]) (fun i hi => ?_)
  rw [curX_len] at hi
  rw [curX_at hi, if_pos hi]
  rw [List.getD_eq_getElem?_getD (l := l.map Zcc), List.getElem?_map, List.getElem?_eq_getElem hi, Zbq default hi]; rfl
set_option maxHeartbeats 2000000 in
theorem c_idleM (m : Zal) : FC Tryz.prog 6 [.agg (Zar m)] (.tup [.agg (Zar (Zeu m)), iv (errM m)]) := by
  obtain ⟨fs⟩ := m
  refine Zan tok Tryz.func6 rfl (by decide +kernel) (Nat.le_of_ble_eq_true rfl) ?_
  refine Zao 0 (fun hl => ?_)
  have hl0 : fs.length ≤ maxL := hl.1.1
  have hmx : maxL = 4294967296 := rfl
  clear hl
  (repeat' first | refine Zad ?_ | (refine Zab tok (by rfl) ?_; conv => whnf))
  refine .inr ⟨_, _, _, uG (QH.ofF (c_Copy0 fs) rfl (fun i hi => by
    have : i = (900, 0, 0) := by
      simp only [Zbg] at hi
      cases e2 : idEq (900, 0, 0) i with
      | false => rw [e2] at hi; cases hi
      | true => exact (Zbb.1 e2).symm
    subst this; rfl)), ?_⟩
  conv => whnf
  (repeat' first | refine Zad ?_ | (refine Zab tok (by rfl) ?_; conv => whnf))
  refine .inl ⟨_, _, _, uG (QC.sc (rd := [(900, 0, 0)]) (c_lRight c_lpad ⟨fs⟩) (.cons (.agg (.cons (.row rfl (.head _) rfl rfl (fun _ _ => rfl)) .nil)) .nil) rfl), ?_⟩
  conv => whnf
  (repeat' ((fail_if_success (show AWp _ _ _ (Code.region 4 _ _) _ _)); first | refine Zad ?_ | (refine Zab tok (by rfl) ?_; conv => whnf) | (refine Zag ?_; conv => whnf) | (refine Zah ?_; conv => whnf) | refine Zaf rfl (fun hb => ?_) (fun hb => ?_)))
  · have hr : Zbc ⟨fs⟩ = false := by simpa using hb
    skip
    refine ⟨_, rfl, Rel.tup (.cons (Rel.agg (.cons ?_ .nil)) (.cons (Rel.int (by simp [errM, hr])) .nil))⟩
    rw [show Zeu ⟨fs⟩ = ⟨fs⟩ from by simp [Zeu, hr]]
    exact Rel.row rfl rfl rfl (fun z _ => rfl)
  have hr : Zbc ⟨fs⟩ = true := by simpa using hb
  clear hb
  (repeat' ((fail_if_success (show AWp _ _ _ (Code.region 5 _ _) _ _)); first | (refine Zab tok (by rfl) ?_; conv => whnf) | refine Zai ?_))
  refine Zat (fun i : Nat => mkF [(1, .bp (1, 0, 0) 0), (2, .bp (2, 0, 0) 0), (13, .rs (900, 0, 0) 3 0 fs.length), (14, iv fs.length), (15, iv i)] [((1, 0, 0), .row false 1 1 (fun _ => [.rs (900, 0, 0) 3 0 fs.length])), ((2, 0, 0), Zak [.nsl]), ((900, 0, 0), .row true 3 fs.length (fun j => Za1 ((curX fs i).getD j default)))] noH) (fun i => i ≤ fs.length) (fun i => fs.length - i) 0 (Nat.zero_le _) ?_ ?_
  · refine Weak.fam [] rfl (fun i hi => by cases hi) ?_ ?_ noF (fun i hi => by cases hi)
    · (repeat' first | exact TLg.nil | refine TLg.cons (GV.imm rfl) ?_ | refine TLg.cons (GV.bp rfl rfl) ?_ | refine TLg.cons (GV.rs rfl rfl ?_ ?_) ?_)
      all_goals rfl
    · refine .old rfl rfl (GB.one (.cons (.rs rfl rfl rfl rfl) .nil) (fun e => by cases e)) (.old rfl rfl (GB.one (GVs.imm rfl) (fun _ => rfl)) (.old rfl rfl (GB.rowI (Nat.le_refl _) (fun q hq => ⟨rfl, ?_⟩)) .nil))
      rw [curX_zero]
  intro i hi
  (repeat' ((fail_if_success (show AWp _ _ _ (Code.region 6 _ _) _ _)); first | refine Zad ?_ | (refine Zab tok (by rfl) ?_; conv => whnf) | refine Zai ?_ | (refine Zag ?_; conv => whnf) | (refine Zas ?_; conv => whnf) | (refine Zah ?_; conv => whnf) | refine Zaf rfl (fun hb => ?_) (fun hb => ?_)))
  · have hlt : i < fs.length := by simp only [decide_eq_true_eq] at hb; omega
    clear hb
    have hz : 0 + (i : Int).toNat = i := by simp
    have hget : (curX fs i).getD (0 + (i : Int).toNat) default = fs.getD i default := by
      rw [hz, curX_at hlt, if_neg (Nat.lt_irrefl i)]
    have hcall : ∀ g, g = fs.getD i default → FC Tryz.prog 13 [.agg (Za1 g)] (.agg (Za1 (Zcc (fs.getD i default)))) := fun g e => by rw [e]; exact c_idleF _
    ((repeat' ((fail_if_success (show AWp _ _ _ (Code.region 8 _ _) _ _)); first | (refine Zab tok (by rfl) ?_; conv => whnf) | (refine Za0 tok mix (by rfl) ?_; conv => whnf) | (refine @And.intro (Zaa _ _ _ _) _ ?_ ?_; rotate_left; (conv => whnf); rotate_right))); all_goals (try ((guard_target = Zaa _ _ _ _); refine Zae ?_; (all_goals (try simp only [Zaa, kzz, kz11, kz12, maxL, Zac] at *)); all_goals omega)))
    refine .inl ⟨_, _, _, uG (QC.fc (hcall ((curX fs i).getD (0 + (i : Int).toNat) default) hget) rfl), ?_⟩
    conv => whnf
    ((repeat' first | (refine Zab tok (by rfl) ?_; conv => whnf) | (refine @And.intro (Zaa _ _ _ _) _ ?_ ?_; rotate_left; (conv => whnf); rotate_right)); all_goals (try ((guard_target = Zaa _ _ _ _); refine Zae ?_; (all_goals (try simp only [Zaa, kzz, kz11, kz12, maxL, Zac] at *)); all_goals omega)))
    refine ⟨i + 1, hlt, by omega, ?_⟩
    refine Weak.fam [] rfl (fun i hi => by cases hi) ?_ ?_ noF (fun i hi => by cases hi)
    · (repeat' first | exact TLg.nil | refine TLg.cons (GV.imm rfl) ?_ | refine TLg.cons (GV.bp rfl rfl) ?_ | refine TLg.cons (GV.rs rfl rfl ?_ ?_) ?_ | refine TLg.cons (GV.int ?_) ?_)
      all_goals first | rfl | exact wrap64 (by omega) (by omega)
    · refine .old rfl rfl (GB.one (.cons (.rs rfl rfl rfl rfl) .nil) (fun e => by cases e)) (.old rfl rfl (GB.one (GVs.imm rfl) (fun _ => rfl)) (.old rfl rfl (GB.row (Nat.le_refl _) (fun q hq => GVs.upd (fun e => ?_) (fun e => ?_)) (fun _ _ _ => rfl)) .nil))
      · rw [hz] at e; subst e
        refine GVs.eqI rfl ?_
        rw [curX_at hq, if_pos (Nat.lt_succ_self q)]; rfl
      · rw [hz] at e
        refine GVs.eqI rfl ?_
        rw [curX_at hq, curX_at hq]
        by_cases h1 : q < i
        · rw [if_pos h1, if_pos (by omega)]
        · rw [if_neg h1, if_neg (by omega)]
  · have hil : i = fs.length := by simp only [decide_eq_false_iff_not] at hb; omega
    clear hb
    subst hil
    skip
    refine ⟨_, rfl, Rel.tup (.cons (Rel.agg (.cons ?_ .nil)) (.cons (Rel.int (by simp [errM, hr])) .nil))⟩
    rw [show Zeu ⟨fs⟩ = ⟨fs.map Zcc⟩ from by unfold Zeu; rw [if_pos hr], ← curX_all]
    exact Rel.row rfl rfl (curX_len _ _).symm (fun z _ => rfl)
end Go.Proofs.YtngcbpijejbibaaGreat
namespace Go.Proofs.YtngcbpijejbibaaGreat
open Go Dv
set_option maxRecDepth 10000
set_option linter.unusedSimpArgs false
noncomputable def cntB (a : Int) (l : List Zby) : Int := l.foldl (fun a b => IntKind.i64.wrap (a + b.ins.length)) a
noncomputable def cntF (a : Int) (l : List Func) : Int := l.foldl (fun a f => cntB a f.blocks) a
theorem cntB_succ {a : Int} {l : List Zby} {j : Nat} (h : j < l.length) : cntB a (l.take (j + 1)) = IntKind.i64.wrap (cntB a (l.take j) + (l.getD j default).ins.length) := by
  unfold cntB; rw [Zci default h, List.foldl_append]; rfl
theorem cntF_succ {a : Int} {l : List Func} {j : Nat} (h : j < l.length) : cntF a (l.take (j + 1)) = cntB (cntF a (l.take j)) (l.getD j default).blocks := by
  unfold cntF; rw [Zci default h, List.foldl_append]; rfl
set_option maxHeartbeats 2000000 in
theorem c_Count (m : Zal) : FC Tryz.prog 9 [.agg (Zar m)] (iv (cntF 0 m.funcs)) := by
  obtain ⟨fs⟩ := m
  refine Zan tok Tryz.func9 rfl (by decide +kernel) (Nat.le_of_ble_eq_true rfl) ?_
  refine Zao 0 (fun hl => ?_)
  have hl0 : fs.length ≤ maxL := hl.1.1
  have hmx : maxL = 4294967296 := rfl
  have hl1 : ∀ i, i < fs.length → (fs.getD i default).blocks.length ≤ maxL := fun i hi => (hl.1.2 i hi).2.2.1.1
  clear hl
  (repeat' ((fail_if_success (show AWp _ _ _ (Code.region 3 _ _) _ _)); first | refine Zad ?_ | (refine Zab tok (by rfl) ?_; conv => whnf) | refine Zai ?_))
  refine Zat (fun i : Nat => mkS [(3, iv (cntF 0 (fs.take i))), (9, .sl 3 fs.length fun i => Za1 (fs.getD i default)), (10, iv fs.length), (11, iv i)] []) (fun i => i ≤ fs.length) (fun i => fs.length - i) 0 (Nat.zero_le _) ?_ ?_
  · refine Weak.list [] rfl (by rfl) ?_ .nil
    ((repeat' first | exact TLes.nil | refine TLes.cons (TLe.eq rfl) ?_); skip)
  intro i hi
  (repeat' ((fail_if_success (show AWp _ _ _ (Code.region 4 _ _) _ _)); first | refine Zad ?_ | (refine Zab tok (by rfl) ?_; conv => whnf) | refine Zai ?_ | (refine Zag ?_; conv => whnf) | (refine Zas ?_; conv => whnf) | (refine Zah ?_; conv => whnf) | refine Zaf rfl (fun hb => ?_) (fun hb => ?_)))
  · have hlt : i < fs.length := by simp only [decide_eq_true_eq] at hb; omega
    clear hb
    have hz : 0 + (i : Int).toNat = i := by simp
    have hz2 : (i : Int).toNat = i := by simp
    have hbl := hl1 i hlt
    have hgen : ∃ f, fs.getD i default = f := ⟨_, rfl⟩
    obtain ⟨f, hf⟩ := hgen
    rw [hf] at hbl
    have hs := cntF_succ (a := 0) hlt
    rw [hf] at hs
    ((repeat' ((fail_if_success (show AWp _ _ _ (Code.region 6 _ _) _ _)); first | refine Zad ?_ | (refine Zab tok (by rfl) ?_; conv => whnf) | refine Zai ?_ | (refine @And.intro (Zaa _ _ _ _) _ ?_ ?_; rotate_left; (conv => whnf); rotate_right))); all_goals (try ((guard_target = Zaa _ _ _ _); refine Zae ?_; (all_goals (try simp only [Zaa, kzz, kz11, kz12, maxL, Zac] at *)); all_goals omega)))
    refine Zat (fun j : Nat => mkS [(3, iv (cntB (cntF 0 (fs.take i)) (f.blocks.take j))), (9, .sl 3 fs.length fun i => Za1 (fs.getD i default)), (10, iv fs.length), (11, iv i), (16, Zcm f.blocks), (17, iv f.blocks.length), (18, iv j)] []) (fun j => j ≤ f.blocks.length) (fun j => f.blocks.length - j) 0 (Nat.zero_le _) ?_ ?_
    · rw [← hf]
      refine Weak.list [] rfl (by rfl) ?_ .nil
      ((repeat' first | exact TLes.nil | refine TLes.cons (TLe.eq rfl) ?_); skip)
    intro j hj
    (repeat' ((fail_if_success (show AWp _ _ _ (Code.region 7 _ _) _ _)); first | refine Zad ?_ | (refine Zab tok (by rfl) ?_; conv => whnf) | refine Zai ?_ | (refine Zag ?_; conv => whnf) | (refine Zas ?_; conv => whnf) | refine Zaf rfl (fun hb => ?_) (fun hb => ?_)))
    · have hjl : j < f.blocks.length := by simp only [decide_eq_true_eq] at hb; omega
      clear hb
      have hzj : (j : Int).toNat = j := by simp
      ((repeat' first | (refine Zab tok (by rfl) ?_; conv => whnf) | (refine @And.intro (Zaa _ _ _ _) _ ?_ ?_; rotate_left; (conv => whnf); rotate_right)); all_goals (try ((guard_target = Zaa _ _ _ _); refine Zae ?_; (all_goals (try simp only [Zaa, kzz, kz11, kz12, maxL, Zac] at *)); all_goals omega)))
      refine ⟨j + 1, hjl, by omega, ?_⟩
      rw [cntB_succ hjl]
      refine Weak.list [] rfl (by rfl) ?_ .nil
      ((repeat' first | exact TLes.nil | refine TLes.cons (TLe.eq rfl) ?_ | refine TLes.cons (TLe.int ?_) ?_); (all_goals first | ((try (simp only [Zaa, kzz, kz11, kz12, maxL, Zac] at *)); exact wrap64 (by omega) (by omega)) | skip))
    · have hjl : j = f.blocks.length := by simp only [decide_eq_false_iff_not] at hb; omega
      clear hb
      subst hjl
      skip
      refine ⟨i + 1, hlt, by omega, ?_⟩
      rw [hs, List.take_length]
      refine Weak.list [] rfl (by rfl) ?_ .nil
      ((repeat' first | exact TLes.nil | refine TLes.cons (TLe.eq rfl) ?_ | refine TLes.cons (TLe.int ?_) ?_); (all_goals first | ((try (simp only [Zaa, kzz, kz11, kz12, maxL, Zac] at *)); exact wrap64 (by omega) (by omega)) | skip))
  · have hil : i = fs.length := by simp only [decide_eq_false_iff_not] at hb; omega
    clear hb
    subst hil
    skip
    exact ⟨_, rfl, Rel.int (by rw [List.take_length])⟩
inductive Cln : List Ins → List Ins → Prop
  | nil : Cln [] []
  | keep {x : Ins} {a b : List Ins} (h : Cln a b) : Cln (x :: a) (x :: b)
  | drop {x : Ins} {a b : List Ins} (hx : mayB x = true) (h : Cln a b) : Cln a (x :: b)
theorem Cln.refl : ∀ l : List Ins, Cln l l
  | [] => .nil
  | _ :: l => .keep (Cln.refl l)
theorem idle_may {x : Ins} {g : Nat → Bool} (h : idleX x g = true) : mayB x = true := by
  unfold idleX at h
  rw [Bool.or_eq_true, Bool.and_eq_true, decide_eq_true_eq] at h
  rcases h with h | h
  · unfold mayB; simp [h.1]
  · exact h.1
theorem Cln.clean (g : Nat → Bool) : ∀ l : List Ins, Cln (cleanL l g) l
  | [] => .nil
  | x :: l => by
      have ih := Cln.clean g l
      have e : Ze0 (x :: l) g = stepC x (Ze0 l g) := rfl
      unfold cleanL at ih ⊢
      rw [e]
      unfold stepC
      split
      · rename_i h; exact .drop (idle_may h) ih
      · rw [List.reverse_append]; exact .keep ih
def GI (now l : List Ins) (i t : Nat) : Prop := ∃ κ, Cln (now.drop κ) (l.drop i) ∧ κ ≤ t ∧ t ≤ now.length ∧ ∀ j, κ ≤ j → j < t → mayB (now.getD j default) = true
theorem GI.zero {now l : List Ins} (h : Cln now l) : GI now l 0 0 := ⟨0, h, Nat.le_refl _, Nat.zero_le _, fun j _ h => absurd h (Nat.not_lt_zero j)⟩
theorem GI.inv {now l : List Ins} {i κ : Nat} (hi : i < l.length) (h : Cln (now.drop κ) (l.drop i)) :
    (κ < now.length ∧ now.getD κ default = l.getD i default ∧ Cln (now.drop (κ + 1)) (l.drop (i + 1))) ∨ (mayB (l.getD i default) = true ∧ Cln (now.drop κ) (l.drop (i + 1))) := by
  rw [Zd4 default hi] at h
  generalize ha : now.drop κ = a at h
  cases h with
  | drop hx h2 => exact .inr ⟨hx, h2⟩
  | keep h2 =>
    have hk : κ < now.length := by
      rcases Nat.lt_or_ge κ now.length with h | h
      · exact h
      · rw [List.drop_eq_nil_of_le h] at ha; cases ha
    rw [Zd4 default hk] at ha
    injection ha with e1 e2
    exact .inl ⟨hk, e1, by rw [e2]; exact h2⟩
theorem GI.hit {now l : List Ins} {i t : Nat} (h : GI now l i t) (hi : i < l.length) (ht : t < now.length) (he : now.getD t default = l.getD i default) : GI now l (i + 1) (t + 1) := by
  obtain ⟨κ, h1, h2, h3, h4⟩ := h
  rcases GI.inv hi h1 with ⟨k1, k2, k3⟩ | ⟨k1, k2⟩
  · refine ⟨κ + 1, k3, by omega, ht, fun j a b => ?_⟩
    by_cases e : j = t
    · subst e
      have := h4 κ (Nat.le_refl _) (by omega)
      rw [he, ← k2]; exact this
    · exact h4 j (by omega) (by omega)
  · refine ⟨κ, k2, by omega, ht, fun j a b => ?_⟩
    by_cases e : j = t
    · subst e; rw [he]; exact k1
    · exact h4 j a (by omega)
theorem GI.all {now l : List Ins} {t : Nat} (h : GI now l l.length t) : t = now.length := by
  obtain ⟨κ, h1, h2, h3, _⟩ := h
  rw [List.drop_length] at h1
  generalize ha : now.drop κ = a at h1
  cases h1
  have := List.drop_eq_nil_iff.1 ha
  omega
theorem idleF_at {f : Func} {j : Nat} (h : j < f.blocks.length) : Cln ((Zcc f).blocks.getD j default).ins (f.blocks.getD j default).ins ∧ ((Zcc f).blocks.getD j default).fin = (f.blocks.getD j default).fin ∧ ((Zcc f).blocks.getD j default).pad = (f.blocks.getD j default).pad := by
  unfold Zcc
  simp only
  rw [cutB_at h]
  split
  · exact ⟨Cln.clean _ _, rfl, rfl⟩
  · exact ⟨Cln.refl _, rfl, rfl⟩
end Go.Proofs.YtngcbpijejbibaaGreat
namespace Go.Proofs.YtngcbpijejbibaaGreat
open Go Dv
set_option maxRecDepth 10000
set_option linter.unusedSimpArgs false
theorem cutB_same (f : Func) (k q : Nat) : ((cutB f k).getD q default).pad = (f.blocks.getD q default).pad ∧ ((cutB f k).getD q default).fin = (f.blocks.getD q default).fin ∧ ((cutB f k).getD q default).landing = (f.blocks.getD q default).landing ∧ Cln ((cutB f k).getD q default).ins (f.blocks.getD q default).ins := by
  by_cases h : q < f.blocks.length
  · rw [cutB_at h]
    split
    · exact ⟨rfl, rfl, rfl, Cln.clean _ _⟩
    · exact ⟨rfl, rfl, rfl, Cln.refl _⟩
  · have e1 : (cutB f k).getD q default = default := by rw [List.getD_eq_getElem?_getD, List.getElem?_eq_none (by rw [Zdl]; omega)]; rfl
    have e2 : f.blocks.getD q default = default := by rw [List.getD_eq_getElem?_getD, List.getElem?_eq_none (by omega)]; rfl
    rw [e1, e2]; exact ⟨rfl, rfl, rfl, Cln.refl _⟩
theorem upT_pt {g g' : Nat → Bool} {q : Nat} (h : g q = g' q) (p : Int) (v : Bool) : upT g p v q = upT g' p v q := by unfold upT; split <;> first | rfl | exact h
theorem upAll_pt : ∀ {l : List Int} {g g' : Nat → Bool} {q : Nat}, g q = g' q → Zdf g l q = Zdf g' l q
  | [], _, _, _, h => h
  | x :: r, _, _, _, h => upAll_pt (l := r) (upT_pt h x true)
theorem stepX_pt {g g' : Nat → Bool} {q : Nat} (x : Ins) (h : g q = g' q) : Zcv x g q = Zcv x g' q := by
  unfold Zcv
  refine upAll_pt ?_
  split
  · exact upT_pt h _ _
  · exact h
theorem Zei : ∀ {l : List Int} {g : Nat → Bool} {q : Nat}, g q = true → Zdf g l q = true
  | [], _, _, h => h
  | x :: r, _, _, h => Zei (l := r) (show upT _ x true _ = true by unfold upT; split <;> first | rfl | exact h)
theorem clean_core {R : Nat} {G H : Nat → Bool} (hGH : ∀ q, q < R → H q = G q) : ∀ (l : List Ins), (∀ x ∈ l, mayB x = true → x.dst.toNat < R) →
    (∀ q, q < R → (Ze0 l H).2 q = (Ze0 l H).1.reverse.foldr Zcv G q) ∧ gle ((Ze0 l H).1.reverse.foldr Zcv G) (l.foldr Zcv G)
  | [], _ => ⟨fun q hq => hGH q hq, fun _ h => h⟩
  | x :: l, hR => by
      obtain ⟨ih1, ih2⟩ := clean_core hGH l (fun y hy => hR y (List.mem_cons_of_mem _ hy))
      have e : Ze0 (x :: l) H = stepC x (Ze0 l H) := rfl
      rw [e, List.foldr_cons]
      generalize hs : Ze0 l H = s at ih1 ih2
      by_cases hi : idleX x s.2 = true
      · rw [show stepC x s = s from if_pos hi]
        refine ⟨ih1, fun q hq => ?_⟩
        have hm := idle_may hi
        have hset := may_sets hm
        have hq2 := ih2 q hq
        unfold Zcv
        rw [if_pos hset, show setsV x = x.dst from if_pos hset]
        by_cases e1 : q = x.dst.toNat
        · unfold idleX at hi
          rw [Bool.or_eq_true, Bool.and_eq_true, decide_eq_true_eq] at hi
          rcases hi with ⟨o1, o2⟩ | ⟨_, o2⟩
          · rw [show Zbm x = [x.a] from if_pos (.inl o1)]
            show upT _ x.a true q = true
            unfold upT
            rw [if_pos (by rw [e1, o2])]
          · exfalso
            have := ih1 q (by rw [e1]; exact hR x List.mem_cons_self hm)
            rw [hq, e1] at this
            rw [this] at o2; cases o2
        · refine Zei ?_
          unfold upT
          rw [if_neg e1]; exact hq2
      · rw [show stepC x s = (s.1 ++ [x], Zcv x s.2) from if_neg hi]
        simp only [List.reverse_append, List.reverse_cons, List.reverse_nil, List.nil_append, List.singleton_append, List.foldr_cons]
        exact ⟨fun q hq => stepX_pt x (ih1 q hq), gle_step ih2⟩
end Go.Proofs.YtngcbpijejbibaaGreat
namespace Go.Proofs.YtngcbpijejbibaaGreat
open Go Dv
set_option maxRecDepth 10000
set_option linter.unusedSimpArgs false
inductive Zcq (H : Nat → Bool) : List Ins → List Ins → (Nat → Bool) → Prop
  | nil : Zcq H [] [] H
  | keep {x : Ins} {a b : List Ins} {g : Nat → Bool} (h : Zcq H a b g) : Zcq H (x :: a) (x :: b) (Zcv x g)
  | drop {x : Ins} {a b : List Ins} {g : Nat → Bool} (hx : idleX x g = true) (h : Zcq H a b g) : Zcq H (x :: a) b g
theorem Zcq.clean (H : Nat → Bool) : ∀ l : List Ins, Zcq H l (cleanL l H) (cleanG l H)
  | [] => .nil
  | x :: l => by
      have ih := Zcq.clean H l
      have e : Ze0 (x :: l) H = stepC x (Ze0 l H) := rfl
      unfold cleanL cleanG at ih ⊢
      rw [e]
      unfold stepC
      split
      · rename_i hx; exact .drop hx ih
      · simp only [List.reverse_append, List.reverse_cons, List.reverse_nil, List.nil_append, List.singleton_append]
        exact .keep ih
theorem Zcq.refl (H : Nat → Bool) : ∀ l : List Ins, Zcq H l l (l.foldr Zcv H)
  | [] => .nil
  | x :: l => .keep (Zcq.refl H l)
structure LvF (F F' : Func) (A H : Nat → Nat → Bool) : Prop where
  regs : F'.regs = F.regs
  params : F'.params = F.params
  len : F'.blocks.length = F.blocks.length
  fin : ∀ q, q < F.blocks.length → (F'.blocks.getD q default).fin = (F.blocks.getD q default).fin
  pad : ∀ q, q < F.blocks.length → (F'.blocks.getD q default).pad = (F.blocks.getD q default).pad
  ins : ∀ q, q < F.blocks.length → ∃ g, Zcq (H q) (F.blocks.getD q default).ins (F'.blocks.getD q default).ins g ∧ ∀ x : Nat, (x : Int) < F.regs → g x = true → A q x = true
  asks : ∀ q, q < F.blocks.length → ∀ p ∈ Za3 (F.blocks.getD q default).fin, H q p.toNat = true
  goals : ∀ q, q < F.blocks.length → ∀ k ∈ Zbf (F.blocks.getD q default), ∀ x : Nat, (x : Int) < F.regs → A k.toNat x = true → ((F.blocks.getD q default).fin.kind = 4 → (x : Int) ≠ (F.blocks.getD q default).fin.dst) → H q x = true
  pads : ∀ q, q < F.blocks.length → (F.blocks.getD q default).fin.kind = 4 → ∀ x : Nat, (x : Int) < F.regs → A (F.blocks.getD q default).fin.pad.toNat x = true → (x : Int) ≠ (F.blocks.getD (F.blocks.getD q default).fin.pad.toNat default).pad.dst → H q x = true
theorem upAll_mem : ∀ {l : List Int} {g : Nat → Bool} {p : Int}, p ∈ l → Zdf g l p.toNat = true
  | x :: r, g, p, h => by
      rcases List.mem_cons.1 h with e | e
      · subst e
        exact Zei (l := r) (show upT _ p true _ = true by unfold upT; rw [if_pos rfl])
      · exact upAll_mem (l := r) e
theorem mgF_mono {g : Nat → Bool} {a : List Bool} {but : Int} {p q : Nat} (h : g q = true) : mgF g a but p q = true := by
  unfold mgF; split <;> simp [h]
theorem mgF_new {g : Nat → Bool} {a : List Bool} {but : Int} {p q : Nat} (hq : q < p) (h : a.getD q false = true) (hn : (q : Int) ≠ but) : mgF g a but p q = true := by
  unfold mgF; rw [if_pos hq, h, decide_eq_true hn]; simp
theorem gGoals_mem {A : List (List Bool)} {R : Nat} {b : Zby} {l : List Int} {k : Int} (hk : k ∈ l) {x : Nat} (hx : x < R) (hA : (A.getD k.toNat []).getD x false = true) (hn : (x : Int) ≠ butOf b) : Zcp A R b l x = true := by
  unfold Zcp
  have keep : ∀ (l : List Int) (g : Nat → Bool), g x = true → (l.foldl (fun g k => mgF g (A.getD k.toNat []) (butOf b) R) g) x = true := by
    intro l
    induction l with
    | nil => intro g h; exact h
    | cons y r ih => intro g h; exact ih _ (mgF_mono h)
  have go : ∀ (l : List Int) (g : Nat → Bool), k ∈ l → (l.foldl (fun g k => mgF g (A.getD k.toNat []) (butOf b) R) g) x = true := by
    intro l
    induction l with
    | nil => intro g h; cases h
    | cons y r ih =>
      intro g h
      rcases List.mem_cons.1 h with e | e
      · subst e; exact keep r _ (mgF_new hx hA hn)
      · exact ih _ e
  exact go l _ hk
theorem lv_idle {m : Zal} {f : Func} (h : Zdo m f = true) : ∃ A H, LvF f (Zcc f) A H := by
  have hR := okF_funP h
  have r0 : 0 ≤ f.regs := by have := hR.1; have := hR.2.2.1; omega
  have hlen : (Zcc f).blocks.length = f.blocks.length := Zdl f _
  by_cases hw : Zdy f = true
  · have hF := found_fix hw
    refine ⟨fun q x => atB (foundA f) q x, fun q => gEnds f q, ⟨rfl, rfl, hlen, fun q hq => (idleF_at hq).2.1, fun q hq => (idleF_at hq).2.2, fun q hq => ?_, fun q hq p hp => upAll_mem hp, fun q hq k hk x hx hA hn => ?_, fun q hq h4 x hx hA hn => ?_⟩⟩
    · have hblk : (Zcc f).blocks.getD q default = blkC f q := by
        show (cutB f (Zbs f).length).getD q default = _
        rw [cutB_at hq, if_pos (by rw [hF.l2]; exact hq)]
      rw [hblk]
      refine ⟨_, Zcq.clean _ _, fun x hx hg => ?_⟩
      have hxR : x < f.regs.toNat := by omega
      have hok := okL h hq
      have hGH : ∀ q', q' < f.regs.toNat → gEnds f q q' = gEnd (foundA f) f.regs.toNat f (f.blocks.getD q default) q' := fun q' hq' => by
        unfold gEnds gEnd
        refine upAll_pt ?_
        unfold atB
        rw [hF.be q hq]
        unfold newBe
        rw [Zf3 hq']
      have hcore := clean_core hGH (f.blocks.getD q default).ins (fun y hy hm => by have := hok.sets y hy (may_sets hm); omega)
      unfold cleanG at hg
      rw [hcore.1 x hxR] at hg
      have := hcore.2 x hg
      unfold atB
      rw [← hF.at_ q hq]
      unfold Zfz
      rw [Zf3 hxR]
      exact this
    · have hxR : x < f.regs.toNat := by omega
      refine Zei ?_
      unfold atB at hA ⊢
      rw [hF.be q hq]
      unfold newBe
      rw [Zf3 hxR]
      have hbut : (x : Int) ≠ butOf (f.blocks.getD q default) := by
        unfold butOf; split
        · rename_i h4; exact hn h4
        · omega
      have := gGoals_mem (A := foundA f) (R := f.regs.toNat) hk hxR hA hbut
      unfold gPad
      split
      · exact mgF_mono this
      · exact this
    · have hxR : x < f.regs.toNat := by omega
      refine Zei ?_
      unfold atB at hA ⊢
      rw [hF.be q hq]
      unfold newBe
      rw [Zf3 hxR]
      unfold gPad
      rw [if_pos h4]
      exact mgF_new hxR hA hn
  · have hno := found_no (f := f) (by simpa using hw)
    have e : Zcc f = f := by
      unfold Zcc
      rw [hno.2]
      show ({ f with blocks := cutB f 0 } : Func) = f
      rw [cutB_zero]
    rw [e]
    exact ⟨fun _ _ => true, fun _ _ => true, ⟨rfl, rfl, rfl, fun _ _ => rfl, fun _ _ => rfl, fun q hq => ⟨_, Zcq.refl _ _, fun _ _ _ => rfl⟩, fun _ _ _ _ => rfl, fun _ _ _ _ _ _ _ _ => rfl, fun _ _ _ _ _ _ _ => rfl⟩⟩
structure RMod (m n : Zal) (A H : Nat → Nat → Nat → Bool) : Prop where
  len : n.funcs.length = m.funcs.length
  at_ : ∀ k, k < m.funcs.length → LvF (m.funcs.getD k default) (n.funcs.getD k default) (A k) (H k)
structure RelF (m n : Zal) (H : Nat → Nat → Nat → Bool) (f g : Za6) : Prop where
  ff : g.f = f.f
  bb : g.block = f.block
  fly : g.fly = f.fly
  len : g.regs.length = f.regs.length
  ex : ∃ l, Zcq (H f.f.toNat f.block.toNat) ((Zay m f).ins.drop f.at_.toNat) ((Zay n g).ins.drop g.at_.toNat) l ∧ ∀ x, x < f.regs.length → l x = true → f.regs.getD x 0 = g.regs.getD x 0
section
variable {m n : Zal} {A H : Nat → Nat → Nat → Bool} {f g : Za6}
theorem RMod.lv (hM : RMod m n A H) (hf : OkF m f) : LvF (Zb5 m f) (n.funcs.getD f.f.toNat default) (A f.f.toNat) (H f.f.toNat) := hM.at_ _ (by have := hf.f0; have := hf.f1; omega)
theorem enterF (hM : RMod m n A H) (hf : OkF m f) (h1 : g.f = f.f) (h2 : g.block = f.block) (h3 : g.fly = f.fly) (h4 : g.regs.length = f.regs.length) (h5 : f.at_ = 0) (h6 : g.at_ = 0)
    (ag : ∀ x, x < f.regs.length → A f.f.toNat f.block.toNat x = true → f.regs.getD x 0 = g.regs.getD x 0) : RelF m n H f g := by
  have hL := hM.lv hf
  have b0 := hf.b0
  have b1 := hf.b1
  obtain ⟨l, l1, l2⟩ := hL.ins f.block.toNat (by omega)
  refine ⟨h1, h2, h3, h4, l, ?_, fun x hx hl => ag x hx (l2 x (by rw [← hf.regs]; omega) hl)⟩
  rw [h5, h6]
  unfold Zay Zb5
  rw [h1, h2]
  exact l1
theorem RelF.fin (hM : RMod m n A H) (hf : OkF m f) (R : RelF m n H f g) : (Zay n g).fin = (Zay m f).fin := by
  have hL := hM.lv hf
  unfold Zay
  unfold Zb5 at hL ⊢
  rw [R.ff, R.bb]
  exact hL.fin _ (by have := hf.b0; have := hf.b1; unfold Zb5 at this; omega)
theorem RelF.padE (hM : RMod m n A H) (hf : OkF m f) (R : RelF m n H f g) {q : Int} (q0 : 0 ≤ q) (q1 : q < (Zb5 m f).blocks.length) : ((Zb5 n g).blocks.getD q.toNat default).pad = ((Zb5 m f).blocks.getD q.toNat default).pad := by
  have hL := hM.lv hf
  show ((n.funcs.getD g.f.toNat default).blocks.getD q.toNat default).pad = _
  rw [R.ff]
  exact hL.pad _ (by omega)
theorem RelF.atEnd (hf : OkF m f) (hg : OkF n g) (R : RelF m n H f g) (he : endB m f = true) : endB n g = true ∧ ∀ x, x < f.regs.length → H f.f.toNat f.block.toNat x = true → f.regs.getD x 0 = g.regs.getD x 0 := by
  obtain ⟨l, l1, l2⟩ := R.ex
  have h1 : f.at_ = (Zay m f).ins.length := by unfold endB at he; simpa using he
  rw [h1, Int.toNat_natCast, List.drop_length] at l1
  generalize hb : (Zay n g).ins.drop g.at_.toNat = b at l1
  cases l1
  have h2 := List.drop_eq_nil_iff.1 hb
  have h3 := hg.a1
  have h4 := hg.a0
  refine ⟨?_, l2⟩
  unfold endB
  exact decide_eq_true (by omega)
theorem RelF.atIns (hf : OkF m f) (hg : OkF n g) (R : RelF m n H f g) (he : endB m f = false) :
    (∃ l, idleX (Zdd m f) l = true ∧ Zcq (H f.f.toNat f.block.toNat) ((Zay m f).ins.drop (f.at_.toNat + 1)) ((Zay n g).ins.drop g.at_.toNat) l ∧ ∀ x, x < f.regs.length → l x = true → f.regs.getD x 0 = g.regs.getD x 0) ∨
    (endB n g = false ∧ Zdd n g = Zdd m f ∧ ∃ l, Zcq (H f.f.toNat f.block.toNat) ((Zay m f).ins.drop (f.at_.toNat + 1)) ((Zay n g).ins.drop (g.at_.toNat + 1)) l ∧ ∀ x, x < f.regs.length → Zcv (Zdd m f) l x = true → f.regs.getD x 0 = g.regs.getD x 0) := by
  obtain ⟨l, l1, l2⟩ := R.ex
  have h1 : ¬ f.at_ = (Zay m f).ins.length := by unfold endB at he; simpa using he
  have h2 := hf.a0
  have h3 := hf.a1
  have hlt : f.at_.toNat < (Zay m f).ins.length := by omega
  rw [Zd4 default hlt] at l1
  generalize hb : (Zay n g).ins.drop g.at_.toNat = b at l1
  cases l1 with
  | drop hx h => exact .inl ⟨l, hx, h, l2⟩
  | @keep _ _ b' g' h =>
    have hlt2 : g.at_.toNat < (Zay n g).ins.length := by
      refine Classical.byContradiction fun hc => ?_
      rw [List.drop_eq_nil_iff.2 (by omega)] at hb; cases hb
    rw [Zd4 default hlt2] at hb
    injection hb with e1 e2
    refine .inr ⟨?_, e1, g', by rw [e2]; exact h, l2⟩
    unfold endB
    exact decide_eq_false (by have := hg.a0; omega)
theorem asks_mem {x : Ins} {l : Nat → Bool} {p : Int} (h : p ∈ Zbm x) : Zcv x l p.toNat = true := upAll_mem h
theorem stepX_keep {x : Ins} {l : Nat → Bool} {q : Nat} (h : l q = true) (hn : Ze9 x = true → q ≠ x.dst.toNat) : Zcv x l q = true := by
  unfold Zcv
  refine Zei ?_
  split
  · rename_i hs
    unfold upT setsV
    rw [if_pos hs, if_neg (hn hs)]; exact h
  · exact h
theorem Ze6 {a : Int} (h : 0 ≤ a) : (a + 1).toNat = a.toNat + 1 := by omega
theorem nextW (hf : OkF m f) (hg : OkF n g) (R : RelF m n H f g) {x : Ins} {l : Nat → Bool} (l1 : Zcq (H f.f.toNat f.block.toNat) ((Zay m f).ins.drop (f.at_.toNat + 1)) ((Zay n g).ins.drop (g.at_.toNat + 1)) l)
    (l2 : ∀ q, q < f.regs.length → Zcv x l q = true → f.regs.getD q 0 = g.regs.getD q 0) (v : Int) : RelF m n H { frW f x.dst v with at_ := f.at_ + 1 } { frW g x.dst v with at_ := g.at_ + 1 } := by
  refine ⟨R.ff, R.bb, R.fly, by simp [frW, R.len], l, ?_, fun q hq hl => ?_⟩
  · show Zcq (H f.f.toNat f.block.toNat) ((Zay m f).ins.drop (f.at_ + 1).toNat) ((Zay n g).ins.drop (g.at_ + 1).toNat) l
    rw [Ze6 hf.a0, Ze6 hg.a0]; exact l1
  · have hq2 : q < f.regs.length := by simpa [frW] using hq
    show (f.regs.set x.dst.toNat v).getD q 0 = (g.regs.set x.dst.toNat v).getD q 0
    rw [Zbj, Zbj, R.len]
    by_cases e : x.dst.toNat = q ∧ x.dst.toNat < f.regs.length
    · rw [if_pos e, if_pos e]
    · rw [if_neg e, if_neg e]
      exact l2 q hq2 (stepX_keep hl (fun _ e2 => e ⟨e2.symm, by omega⟩))
theorem nextN (hf : OkF m f) (hg : OkF n g) (R : RelF m n H f g) {x : Ins} (hx : Ze9 x = false) {l : Nat → Bool} (l1 : Zcq (H f.f.toNat f.block.toNat) ((Zay m f).ins.drop (f.at_.toNat + 1)) ((Zay n g).ins.drop (g.at_.toNat + 1)) l)
    (l2 : ∀ q, q < f.regs.length → Zcv x l q = true → f.regs.getD q 0 = g.regs.getD q 0) : RelF m n H (goOn f) (goOn g) := by
  refine ⟨R.ff, R.bb, R.fly, R.len, l, ?_, fun q hq hl => l2 q hq (stepX_keep hl (fun e => by rw [hx] at e; cases e))⟩
  show Zcq (H f.f.toNat f.block.toNat) ((Zay m f).ins.drop (f.at_ + 1).toNat) ((Zay n g).ins.drop (g.at_ + 1).toNat) l
  rw [Ze6 hf.a0, Ze6 hg.a0]; exact l1
end
end Go.Proofs.YtngcbpijejbibaaGreat
namespace Go.Proofs.YtngcbpijejbibaaGreat
open Go Dv
set_option maxRecDepth 10000
set_option linter.unusedSimpArgs false
section
variable {m n : Zal} {A H : Nat → Nat → Nat → Bool} {f g : Za6}
theorem idle_next {x : Ins} {l : Nat → Bool} (hm : Zbc m = true) (hf : OkF m f) (hg : OkF n g) (R : RelF m n H f g) (he : endB m f = false) (hi : idleX (Zdd m f) l = true)
    (l1 : Zcq (H f.f.toNat f.block.toNat) ((Zay m f).ins.drop (f.at_.toNat + 1)) ((Zay n g).ins.drop g.at_.toNat) l) (l2 : ∀ x, x < f.regs.length → l x = true → f.regs.getD x 0 = g.regs.getD x 0) :
    (Zdd m f).op ≤ 8 ∧ (Zdd m f).op ≠ 11 ∧ (Zfe f (Zdd m f)).2 = true ∧ RelF m n H (Zfe f (Zdd m f)).1 g := by
  have hmay := idle_may hi
  have hI := (okF_ins hm hf he).2
  generalize Zdd m f = x at hi hmay hI ⊢
  have hop : x.op = 1 ∨ x.op = 2 ∨ x.op = 3 ∨ x.op = 4 ∨ x.op = 5 ∨ x.op = 7 ∨ x.op = 8 := by unfold mayB at hmay; simpa using hmay
  have hv : (Zfd f x).2 = true := by
    unfold Zfd
    split
    · rfl
    · rename_i h1
      unfold doW
      rcases hop with h | h | h | h | h | h | h <;> first | omega | (simp [h]; done)
  have hr : Zfe f x = ({ frW f x.dst (Zfd f x).1 with at_ := f.at_ + 1 }, true) := if_pos hv
  refine ⟨by omega, by omega, by rw [hr], ?_⟩
  rw [hr]
  refine ⟨R.ff, R.bb, R.fly, by simp [frW, R.len], l, ?_, fun q hq hl => ?_⟩
  · show Zcq (H f.f.toNat f.block.toNat) ((Zay m f).ins.drop (f.at_ + 1).toNat) ((Zay n g).ins.drop g.at_.toNat) l
    rw [Ze6 hf.a0]; exact l1
  · have hq2 : q < f.regs.length := by simpa [frW] using hq
    show (f.regs.set x.dst.toNat (Zfd f x).1).getD q 0 = g.regs.getD q 0
    rw [Zbj]
    by_cases e : x.dst.toNat = q ∧ x.dst.toNat < f.regs.length
    · rw [if_pos e]
      unfold idleX at hi
      rw [Bool.or_eq_true, Bool.and_eq_true, decide_eq_true_eq] at hi
      rcases hi with ⟨o1, o2⟩ | ⟨_, o2⟩
      · have : (Zfd f x).1 = f.regs.getD x.a.toNat 0 := by
          unfold Zfd; rw [if_neg (by omega)]; unfold doW; rw [if_pos o1]
        rw [this, o2, e.1]
        exact l2 q hq2 hl
      · rw [e.1, hl] at o2; cases o2
    · rw [if_neg e]; exact l2 q hq2 hl
theorem Zd1 {x : Ins} {l : Nat → Bool} (l2 : ∀ q, q < f.regs.length → Zcv x l q = true → f.regs.getD q 0 = g.regs.getD q 0) {p : Int} (hp : p ∈ Zbm x) (h0 : 0 ≤ p ∧ p < f.regs.length) : f.regs.getD p.toNat 0 = g.regs.getD p.toNat 0 :=
  l2 _ (by omega) (asks_mem hp)
theorem new_rel (hM : RMod m n A H) (hm : Zbc m = true) {k : Int} (k0 : 0 ≤ k) (k1 : k < m.funcs.length) (args : List Int) : RelF m n H (frN m k args) (frN n k args) := by
  have hL := hM.at_ k.toNat (by omega)
  have e : frN n k args = frN m k args := by unfold frN; rw [hL.regs]
  refine enterF hM (okF_new hm k0 k1) ?_ ?_ ?_ ?_ rfl ?_ (fun x hx _ => ?_) <;> rw [e]
  rfl
theorem kept_step (hM : RMod m n A H) (hm : Zbc m = true) {s t : Mach} (R : RelM (RelF m n H) s t) (hd : s.done = 0) (hl : 0 < s.stack.length) (hf : OkF m (topF s)) (hg : OkF n (topF t)) (he : endB m (topF s) = false) {l : Nat → Bool}
    (l1 : Zcq (H (topF s).f.toNat (topF s).block.toNat) ((Zay m (topF s)).ins.drop ((topF s).at_.toNat + 1)) ((Zay n (topF t)).ins.drop ((topF t).at_.toNat + 1)) l)
    (l2 : ∀ q, q < (topF s).regs.length → Zcv (Zdd m (topF s)) l q = true → (topF s).regs.getD q 0 = (topF t).regs.getD q 0) :
    RelM (RelF m n H) (insM m s (topF s) (Zdd m (topF s))) (insM n t (topF t) (Zdd m (topF s))) := by
  have hR := relM_top R hd hl
  have hI := (okF_ins hm hf he).2
  have hreg := hf.regs
  generalize hfe : topF s = f at hf hR l1 l2 hI hreg ⊢
  generalize hge : topF t = g at hg hR l1 l2 ⊢
  generalize Zdd m f = x at l2 hI ⊢
  unfold insM
  by_cases h11 : x.op = 11
  · rw [if_pos h11, if_pos h11]
    have hA : Zer m (Zb5 m f) x.f x.args = true := by
      rcases hI with h | h | h | h | h | h | h
      · omega
      · omega
      · omega
      · omega
      · exact h.2.2.2.2.2
      · omega
      · omega
    have hn := argsB_n hA
    have ha : Zcz f x.args = Zcz g x.args := by
      unfold Zcz
      refine List.map_congr_left (fun p hp => Zd1 l2 (x := x) ?_ (by rw [hreg]; exact hn.2.2 p hp))
      unfold Zbm; rw [if_neg (by omega), if_neg (by omega), if_pos h11]; exact hp
    exact relM_called R hd (by rw [hfe, hge]; exact ha) (new_rel hM hm hn.1.1 hn.1.2 _)
  rw [if_neg h11, if_neg h11]
  by_cases h8 : x.op ≤ 8
  · rw [if_pos h8, if_pos h8]
    have hv : Zfd f x = Zfd g x := by
      unfold Zfd
      by_cases h1 : x.op = 1
      · rw [if_pos h1, if_pos h1]
      · rw [if_neg h1, if_neg h1]
        by_cases h2 : x.op = 2
        · have ha : inn x.a (Zb5 m f).regs = true := by
            rcases hI with h | h | h | h | h | h | h <;> first | omega | exact h.2.2.1
          rw [if_neg (by omega), if_neg (by omega), Zd1 l2 (x := x) (p := x.a) (by unfold Zbm; rw [if_pos (.inl h2)]; exact List.mem_singleton.2 rfl) (by rw [hreg]; exact (Zac _ _).1 ha)]
        · have hab : 3 ≤ x.op ∧ inn x.a (Zb5 m f).regs = true ∧ inn x.b (Zb5 m f).regs = true := by
            rcases hI with h | h | h | h | h | h | h
            · omega
            · omega
            · exact ⟨h.1.1, h.2.2.1, h.2.2.2.1⟩
            · omega
            · omega
            · omega
            · omega
          have hal : Zbm x = [x.a, x.b] := by unfold Zbm; rw [if_neg (by omega), if_pos (by omega)]
          rw [Zd1 l2 (x := x) (p := x.a) (by rw [hal]; simp) (by rw [hreg]; exact (Zac _ _).1 hab.2.1), Zd1 l2 (x := x) (p := x.b) (by rw [hal]; simp) (by rw [hreg]; exact (Zac _ _).1 hab.2.2)]
    unfold Zfe
    rw [← hv]
    by_cases hok : (Zfd f x).2 = true
    · rw [if_pos hok, if_pos hok]
      exact Zd2 R hd (nextW hf hg hR l1 l2 _)
    · rw [if_neg hok, if_neg hok]
      exact Zfv R (by decide)
  rw [if_neg h8, if_neg h8]
  by_cases h9 : x.op = 9
  · rw [if_pos h9, if_pos h9]
    have ha : inn x.a (Zb5 m f).regs = true := by
      rcases hI with h | h | h | h | h | h | h <;> first | omega | exact h.2.2.1
    have hs := Zd1 l2 (x := x) (p := x.a) (by unfold Zbm; rw [if_pos (by omega)]; exact List.mem_singleton.2 rfl) (by rw [hreg]; exact (Zac _ _).1 ha)
    unfold cellN
    rw [← hs, ← R.cells]
    split
    · exact Zfv R (by decide)
    · exact Zd2 R hd (nextW hf hg hR l1 l2 _)
  rw [if_neg h9, if_neg h9]
  by_cases h10 : x.op = 10
  · rw [if_pos h10, if_pos h10]
    have hab : inn x.a (Zb5 m f).regs = true ∧ inn x.b (Zb5 m f).regs = true := by
      rcases hI with h | h | h | h | h | h | h
      · omega
      · omega
      · omega
      · exact ⟨h.2.2.1, h.2.2.2.1⟩
      · omega
      · omega
      · omega
    have hal : Zbm x = [x.a, x.b] := by unfold Zbm; rw [if_neg (by omega), if_pos (by omega)]
    have hs := Zd1 l2 (x := x) (p := x.a) (by rw [hal]; simp) (by rw [hreg]; exact (Zac _ _).1 hab.1)
    have hs2 := Zd1 l2 (x := x) (p := x.b) (by rw [hal]; simp) (by rw [hreg]; exact (Zac _ _).1 hab.2)
    unfold cellN
    rw [← hs, ← hs2, ← R.cells]
    split
    · exact Zfv R (by decide)
    · exact Zd2 (relM_ev (s' := { s with cells := s.cells.set (f.regs.getD x.a.toNat 0).toNat (f.regs.getD x.b.toNat 0) }) (t' := { t with cells := s.cells.set (f.regs.getD x.a.toNat 0).toNat (f.regs.getD x.b.toNat 0) }) R ⟨R.tell.ev, R.tell.dn, R.tell.va⟩ rfl R.inp rfl rfl rfl) hd
        (nextN hf hg hR (by unfold Ze9; rw [decide_eq_false]; omega) l1 l2)
  rw [if_neg h10, if_neg h10]
  by_cases h12 : x.op = 12
  · rw [if_pos h12, if_pos h12]
    have ha : inn x.a (Zb5 m f).regs = true := by
      rcases hI with h | h | h | h | h | h | h <;> first | omega | exact h.2.2.1
    have hs := Zd1 l2 (x := x) (p := x.a) (by unfold Zbm; rw [if_pos (by omega)]; exact List.mem_singleton.2 rfl) (by rw [hreg]; exact (Zac _ _).1 ha)
    rw [← hs, ← R.tell.ev]
    exact Zd2 (relM_ev (s' := { s with events := s.events ++ [f.regs.getD x.a.toNat 0] }) (t' := { t with events := s.events ++ [f.regs.getD x.a.toNat 0] }) R ⟨rfl, R.tell.dn, R.tell.va⟩ R.cells R.inp rfl rfl rfl) hd
        (nextN hf hg hR (by unfold Ze9; rw [decide_eq_false]; omega) l1 l2)
  rw [if_neg h12, if_neg h12]
  by_cases h13 : x.op = 13
  · rw [if_pos h13, if_pos h13, ← R.inp, ← R.tell.ev]
    split
    · exact Zfv R (by decide)
    · exact Zd2 (relM_ev (s' := { s with inputs := s.inputs.drop 1, events := s.events ++ [s.inputs.getD 0 0 + 65536] }) (t' := { t with inputs := s.inputs.drop 1, events := s.events ++ [s.inputs.getD 0 0 + 65536] }) R ⟨rfl, R.tell.dn, R.tell.va⟩ R.cells rfl rfl rfl rfl) hd
        (nextW hf hg hR l1 l2 _)
  · exfalso
    rcases hI with h | h | h | h | h | h | h <;> omega
theorem answ_rel (hM : RMod m n A H) (hm : Zbc m = true) (hf : OkF m f) (hg : OkF n g) (R : RelF m n H f g) (hc : CallF m f) (w : Int) : RelF m n H (answF m f w) (answF n g w) := by
  have hfin := R.fin hM hf
  by_cases he : endB m f = true
  · obtain ⟨e1, e2⟩ := R.atEnd hf hg he
    have hk := hc.fin he
    have hto := ((callF_dst hm hf hc).1 he).2
    unfold answF
    rw [if_pos he, if_pos e1, hfin]
    refine enterF hM (okF_to (okF_W hf _ _) hto.1 hto.2) R.ff rfl R.fly (by simp [frW, R.len]) rfl rfl (fun q hq hA => ?_)
    have hq2 : q < f.regs.length := by simpa [frW] using hq
    show (f.regs.set (Zay m f).fin.dst.toNat w).getD q 0 = (g.regs.set (Zay m f).fin.dst.toNat w).getD q 0
    rw [Zbj, Zbj, R.len]
    by_cases e : (Zay m f).fin.dst.toNat = q ∧ (Zay m f).fin.dst.toNat < f.regs.length
    · rw [if_pos e, if_pos e]
    · rw [if_neg e, if_neg e]
      refine e2 q hq2 ?_
      have hL := hM.lv hf
      have b0 := hf.b0
      have b1 := hf.b1
      have hdst := ((callF_dst hm hf hc).1 he).1
      refine hL.goals f.block.toNat (by omega) (Zay m f).fin.to ?_ q (by rw [← hf.regs]; omega) hA (fun _ e3 => e ⟨?_, ?_⟩)
      · show _ ∈ Zbf (Zay m f)
        unfold Zbf; rw [if_pos (.inr hk)]; exact List.mem_singleton.2 rfl
      · have e4 : (q : Int) = (Zay m f).fin.dst := e3
        omega
      · omega
  · have he : endB m f = false := by simpa using he
    have ho := hc.ins he
    rcases R.atIns hf hg he with ⟨l, hi, _⟩ | ⟨k1, k2, l, l1, l2⟩
    · have := idle_may hi
      unfold mayB at this
      rw [decide_eq_true_eq] at this
      omega
    · unfold answF
      rw [if_neg (by rw [he]; simp), if_neg (by rw [k1]; simp)]
      rw [show (Zay n g).ins.getD g.at_.toNat default = Zdd m f from k2]
      exact nextW hf hg R l1 l2 w
theorem catch_rel (hM : RMod m n A H) (hm : Zbc m = true) (hf : OkF m f) (hg : OkF n g) (R : RelF m n H f g) (hc : CallF m f) (w : Int) (c : Bool) : Zd5 m f w c = Zd5 n g w c := by
  have hfin := R.fin hM hf
  by_cases he : endB m f = true
  · have e1 := (R.atEnd hf hg he).1
    have hk := hc.fin he
    have hp := (okF_pad hm hf hk).1
    unfold Zd5
    rw [he, e1, hfin]
    have : padF n g = padF m f := by
      unfold padF
      rw [hfin]
      exact R.padE hM hf hp.1 hp.2
    rw [this]
  · have he : endB m f = false := by simpa using he
    have ho := hc.ins he
    rcases R.atIns hf hg he with ⟨l, hi, _⟩ | ⟨k1, _⟩
    · have := idle_may hi
      unfold mayB at this
      rw [decide_eq_true_eq] at this
      omega
    · unfold Zd5; rw [he, k1]; rfl
theorem land_rel (hM : RMod m n A H) (hm : Zbc m = true) (hf : OkF m f) (hg : OkF n g) (R : RelF m n H f g) (w : Int) (hc : Zd5 m f w true = true) : RelF m n H (landF m f (Zay m f).fin.pad w) (landF n g (Zay n g).fin.pad w) := by
  have hfin := R.fin hM hf
  unfold Zd5 at hc
  simp only [Bool.and_eq_true, decide_eq_true_eq] at hc
  have he := hc.1
  have hk := hc.2.1
  obtain ⟨hp, _, hd0, hd1⟩ := okF_pad hm hf hk
  obtain ⟨e1, e2⟩ := R.atEnd hf hg he
  have hpe : (padOf n g (Zay m f).fin.pad).pad = (padOf m f (Zay m f).fin.pad).pad := R.padE hM hf hp.1 hp.2
  unfold landF
  rw [hfin, hpe]
  refine enterF hM (okF_W (okF_to (f := { f with fly := w }) ⟨hf.f0, hf.f1, hf.b0, hf.b1, hf.a0, hf.a1, hf.regs⟩ hp.1 hp.2) _ _) R.ff rfl rfl (by simp [frW, R.len]) rfl rfl (fun q hq hA => ?_)
  have hq2 : q < f.regs.length := by simpa [frW] using hq
  show (f.regs.set (padOf m f (Zay m f).fin.pad).pad.dst.toNat w).getD q 0 = (g.regs.set (padOf m f (Zay m f).fin.pad).pad.dst.toNat w).getD q 0
  rw [Zbj, Zbj, R.len]
  by_cases e : (padOf m f (Zay m f).fin.pad).pad.dst.toNat = q ∧ (padOf m f (Zay m f).fin.pad).pad.dst.toNat < f.regs.length
  · rw [if_pos e, if_pos e]
  · rw [if_neg e, if_neg e]
    refine e2 q hq2 ?_
    have hL := hM.lv hf
    have b0 := hf.b0
    have b1 := hf.b1
    refine hL.pads f.block.toNat (by omega) hk q (by rw [← hf.regs]; omega) hA (fun e3 => e ⟨?_, ?_⟩)
    · have e4 : (q : Int) = (padOf m f (Zay m f).fin.pad).pad.dst := e3
      omega
    · have e4 : (q : Int) = (padOf m f (Zay m f).fin.pad).pad.dst := e3
      omega
theorem go_rel (hM : RMod m n A H) (hm : Zbc m = true) (hf : OkF m f) (hg : OkF n g) (R : RelF m n H f g) (he : endB m f = true) (h1 : (Zay m f).fin.kind ≠ 1) (h4 : (Zay m f).fin.kind ≠ 4) (h5 : (Zay m f).fin.kind ≠ 5) (h6 : (Zay m f).fin.kind ≠ 6) :
    RelF m n H (goF (Zay m f) f) (goF (Zay n g) g) := by
  have hfin := R.fin hM hf
  obtain ⟨e1, e2⟩ := R.atEnd hf hg he
  have hE := (Ze1 hm hf).2
  have hL := hM.lv hf
  have b0 := hf.b0
  have b1 := hf.b1
  have hgo := okF_goF hm hf h1 h4 h5 h6
  have ha : (Zay m f).fin.kind = 3 → regA f (Zay m f).fin.a = regA g (Zay m f).fin.a := fun h3 => by
    have hin : inn (Zay m f).fin.a (Zb5 m f).regs = true := by
      rcases hE with h | h | h | h | h <;> first | omega | exact h.2.1
    have := (Zac _ _).1 hin
    unfold regA
    refine e2 _ (by have := hf.regs; omega) (hL.asks f.block.toNat (by omega) _ ?_)
    show _ ∈ Za3 (Zay m f).fin
    unfold Za3; rw [if_pos (.inr (.inl h3))]; exact List.mem_singleton.2 rfl
  have hgoals : ∀ k, k ∈ Zbf (Zay m f) → ∀ q, q < f.regs.length → A f.f.toNat k.toNat q = true → f.regs.getD q 0 = g.regs.getD q 0 := fun k hk q hq hA =>
    e2 q hq (hL.goals f.block.toNat (by omega) k hk q (by rw [← hf.regs]; omega) hA (fun h => absurd h h4))
  unfold goF at hgo ⊢
  rw [hfin]
  by_cases h3 : (Zay m f).fin.kind = 3
  · rw [← ha h3]
    by_cases hz : regA f (Zay m f).fin.a = 0
    · rw [if_pos ⟨h3, hz⟩] at hgo ⊢
      refine enterF hM hgo R.ff rfl R.fly R.len rfl rfl (fun q hq hA => hgoals _ ?_ q hq hA)
      unfold Zbf; rw [if_neg (by omega), if_pos h3]; simp
    · rw [if_neg (fun h => hz h.2)] at hgo ⊢
      refine enterF hM hgo R.ff rfl R.fly R.len rfl rfl (fun q hq hA => hgoals _ ?_ q hq hA)
      unfold Zbf; rw [if_neg (by omega), if_pos h3]; simp
  · rw [if_neg (fun h => h3 h.1)] at hgo ⊢
    rw [if_neg (fun h => h3 h.1)]
    refine enterF hM hgo R.ff rfl R.fly R.len rfl rfl (fun q hq hA => hgoals _ ?_ q hq hA)
    have hk2 : (Zay m f).fin.kind = 2 := by rcases hE with h | h | h | h | h <;> omega
    unfold Zbf; rw [if_pos (.inl hk2)]; exact List.mem_singleton.2 rfl
theorem clean_step (hM : RMod m n A H) (hm : Zbc m = true) {s t : Mach} (hs : OkM m s) (ht : OkM n t) (R : RelM (RelF m n H) s t) (hd : s.done = 0) :
    RelM (RelF m n H) (Zfs m s) t ∨ RelM (RelF m n H) (Zfs m s) (Zfs n t) := by
  have hl := hs.pos hd
  have hd2 : t.done = 0 := by rw [← R.tell.dn]; exact hd
  have hl2 := ht.pos hd2
  have hL := R.st hd
  have hf := hs.fr _ (Zfp hl)
  have hg := ht.fr _ (Zfp hl2)
  have hR := relM_top R hd hl
  have hfin := hR.fin hM hf
  have e1 : Zfs m s = Zet m s (topF s) (Zay m (topF s)) := if_pos hd
  have e2 : Zfs n t = Zet n t (topF t) (Zay n (topF t)) := if_pos hd2
  have hpop : 1 < s.stack.length → ∀ w, RelF m n H (answF m (topF (popM s)) w) (answF n (topF (popM t)) w) := fun h2 w => by
    have k1 := Zfx hs h2
    have k2 := Zfx ht (by rw [← hL.len]; exact h2)
    exact answ_rel hM hm k1.1 k2.1 (relM_top (relM_pop R hd) hd (by rw [Zdw]; omega)) k1.2 w
  have hthr : ∀ w, RelM (RelF m n H) (Zb0 m s w) (Zb0 n t w) := fun w => by
    have hi2 : ∀ i, i + 1 < s.stack.length → OkF m (s.stack.getD i default) ∧ OkF n (t.stack.getD i default) ∧ RelF m n H (s.stack.getD i default) (t.stack.getD i default) ∧ CallF m (s.stack.getD i default) := fun i hi =>
      ⟨hs.fr _ (Zcx _ (by omega)), ht.fr _ (Zcx _ (by have := hL.len; omega)), hL.at_ i (by omega), hs.ca _ (top_take hi)⟩
    refine relM_thrown R hd (fun i hi c => ?_) (fun i hi hc => ?_)
    · obtain ⟨k1, k2, k3, k4⟩ := hi2 i hi
      exact catch_rel hM hm k1 k2 k3 k4 w c
    · obtain ⟨k1, k2, k3, k4⟩ := hi2 i hi
      exact land_rel hM hm k1 k2 k3 w hc
  by_cases he : endB m (topF s) = true
  · refine .inr ?_
    obtain ⟨k1, k2⟩ := hR.atEnd hf hg he
    have hE := (Ze1 hm hf).2
    have hLv := hM.lv hf
    have b0 := hf.b0
    have b1 := hf.b1
    have hask : ∀ p, p ∈ Za3 (Zay m (topF s)).fin → 0 ≤ p ∧ p < (Zb5 m (topF s)).regs → regA (topF s) p = regA (topF t) p := fun p hp hp2 =>
      k2 _ (by have := hf.regs; omega) (hLv.asks (topF s).block.toNat (by omega) p hp)
    rw [e1, e2]
    unfold Zet
    rw [if_neg (show ¬ endB m (topF s) = false by rw [he]; simp), if_neg (show ¬ endB n (topF t) = false by rw [k1]; simp)]
    by_cases h1 : (Zay m (topF s)).fin.kind = 1
    · have ha : regA (topF s) (Zay m (topF s)).fin.a = regA (topF t) (Zay m (topF s)).fin.a := by
        refine hask _ (by unfold Za3; rw [if_pos (.inl h1)]; exact List.mem_singleton.2 rfl) ?_
        rcases hE with h | h | h | h | h <;> first | omega | exact (Zac _ _).1 h.2.1
      rw [hfin, if_pos h1, if_pos h1, ← ha]
      exact relM_answered R hd hl (fun h2 => hpop h2 _)
    rw [if_neg h1, hfin, if_neg h1]
    by_cases h4 : (Zay m (topF s)).fin.kind = 4
    · rw [if_pos h4, if_pos h4]
      have hA : Zer m (Zb5 m (topF s)) (Zay m (topF s)).fin.f (Zay m (topF s)).fin.args = true := by
        rcases hE with h | h | h | h | h
        · omega
        · omega
        · omega
        · exact h.2.2.2.1
        · omega
      have hn := argsB_n hA
      refine relM_called R hd ?_ (new_rel hM hm hn.1.1 hn.1.2 _)
      unfold Zcz
      refine List.map_congr_left (fun p hp => hask p ?_ (hn.2.2 p hp))
      unfold Za3; rw [if_neg (by omega), if_pos h4]; exact hp
    rw [if_neg h4, if_neg h4]
    by_cases h5 : (Zay m (topF s)).fin.kind = 5
    · have ha : regA (topF s) (Zay m (topF s)).fin.a = regA (topF t) (Zay m (topF s)).fin.a := by
        refine hask _ (by unfold Za3; rw [if_pos (.inr (.inr h5))]; exact List.mem_singleton.2 rfl) ?_
        rcases hE with h | h | h | h | h <;> first | omega | exact (Zac _ _).1 h.2.1
      rw [if_pos h5, if_pos h5, ← ha]
      exact hthr _
    rw [if_neg h5, if_neg h5]
    by_cases h6 : (Zay m (topF s)).fin.kind = 6
    · rw [if_pos h6, if_pos h6, hR.fly]
      exact hthr _
    rw [if_neg h6, if_neg h6]
    exact Zd2 R hd (go_rel hM hm hf hg hR he h1 h4 h5 h6)
  · have he : endB m (topF s) = false := by simpa using he
    rcases hR.atIns hf hg he with ⟨l, hi, l1, l2⟩ | ⟨k1, k2, l, l1, l2⟩
    · refine .inl ?_
      obtain ⟨j1, j2, j3, j4⟩ := idle_next (x := default) hm hf hg hR he hi l1 l2
      rw [e1]
      unfold Zet
      rw [if_pos he]
      show RelM (RelF m n H) (insM m s (topF s) (Zdd m (topF s))) t
      unfold insM
      rw [if_neg j2, if_pos j1, if_pos j3]
      exact relM_withL R hd hl j4
    · refine .inr ?_
      rw [e1, e2]
      unfold Zet
      rw [if_pos he, if_pos k1]
      show RelM (RelF m n H) (insM m s (topF s) (Zdd m (topF s))) (insM n t (topF t) (Zdd n (topF t)))
      rw [k2]
      exact kept_step hM hm R hd hl hf hg he l1 l2
end
end Go.Proofs.YtngcbpijejbibaaGreat
namespace Go.Proofs.YtngcbpijejbibaaGreat
open Go Dv
set_option maxRecDepth 10000
set_option linter.unusedSimpArgs false
def aw18x : Ins := ⟨1, 0, 0, 0, 1, 0, []⟩
def aw18y : Ins := ⟨1, 0, 0, 0, 2, 0, []⟩
def aw18e : End := ⟨1, 0, 0, 0, [], 0, 0, 0⟩
def aw18p : Pad := ⟨0, [], false, false⟩
def aw18B : Zby := ⟨false, aw18p, [aw18x, aw18y], aw18e⟩
def aw18C : Zby := ⟨false, aw18p, [aw18y], aw18e⟩
def Ze5 : Func := ⟨0, 1, [aw18B]⟩
def aw18G : Func := ⟨0, 1, [aw18C]⟩
theorem aw18_F : Zcc Ze5 = aw18G := by
  have hw : Zdy Ze5 = true := by decide +kernel
  have hn : (Zbs Ze5).length = 1 := by
    unfold Zbs; rw [if_pos hw]
    exact (Zex Ze5 _).1.l2
  have hb : blkC Ze5 0 = aw18C := by
    have hg : gEnds Ze5 0 = upT (atB (Zbs Ze5) 0) 0 true := rfl
    unfold blkC
    rw [hg]
    have hc : cleanL [aw18x, aw18y] (upT (atB (Zbs Ze5) 0) 0 true) = [aw18y] := by
      generalize atB (Zbs Ze5) 0 = g
      have e1 : stepC aw18y ([], upT g 0 true) = ([aw18y], Zcv aw18y (upT g 0 true)) := rfl
      have e2 : stepC aw18x ([aw18y], Zcv aw18y (upT g 0 true)) = ([aw18y], Zcv aw18y (upT g 0 true)) := rfl
      show (stepC aw18x (stepC aw18y ([], upT g 0 true))).1.reverse = _
      rw [e1, e2]; rfl
    show Zby.mk _ _ (cleanL [aw18x, aw18y] _) _ = _
    rw [hc]; rfl
  have hx : cutB Ze5 1 = [aw18C] := by
    show (List.range 1).map (fun q => if q < 1 then blkC Ze5 q else Ze5.blocks.getD q default) = _
    show [if 0 < 1 then blkC Ze5 0 else _] = _
    rw [if_pos Nat.zero_lt_one, hb]
  unfold Zcc
  rw [hn, hx]; rfl
theorem aw18_M : Zeu ⟨[Ze5]⟩ = ⟨[aw18G]⟩ := by
  unfold Zeu
  rw [if_pos (by decide +kernel)]
  simp only [List.map_cons, List.map_nil, aw18_F]
set_option maxHeartbeats 2000000 in
theorem c_awake18 : FC Tryz.prog 4 [] (.bool true) := by
  refine Zan tok Tryz.func4 rfl (by decide +kernel) (Nat.le_of_ble_eq_true rfl) ?_
  (repeat' ((fail_if_success (show AWp _ _ _ (Code.region 2 _ _) _ _)); first | refine Zad ?_ | (refine Zab tok (by rfl) ?_; conv => whnf)))
  refine Zaq (Weak.fam (tl := [(1, .bp (1, 0, 0) 0)]) (hl := [((1, 0, 0), .row true 1 1 (fun _ => Zar ⟨[Ze5]⟩))]) (F := noH) [] rfl (fun i hi => by cases hi) (.cons (.bp rfl rfl) .nil) (.old rfl rfl (GB.one ?_ (fun _ => rfl)) .nil) noF (fun i hi => by cases hi)) ?_
  · (repeat' first | exact GVs.nil | exact lt0 | refine ltS ?_ ?_ | ((conv => arg 4; whnf); (conv => arg 5; whnf); first | refine GVs.cons (GV.imm rfl) ?_ | refine GVs.cons (GV.wk rfl (.nsl rfl)) ?_ | refine GVs.cons (GV.frz (hd_no rfl) rfl (Nat.le_of_ble_eq_true rfl) rfl ?_ ?_) ?_) | exact (show Zb1 _ = true from rfl))
  have h1 : FC Tryz.prog 6 [.agg (Zar ⟨[Ze5]⟩)] (.tup [.agg (Zar ⟨[aw18G]⟩), iv 0]) := by
    have := c_idleM ⟨[Ze5]⟩
    rw [aw18_M, show errM ⟨[Ze5]⟩ = 0 from by decide +kernel] at this; exact this
  have h2 : FC Tryz.prog 9 [.agg (Zar ⟨[Ze5]⟩)] (iv 2) := by
    have := c_Count ⟨[Ze5]⟩
    rw [show cntF 0 (Zal.funcs ⟨[Ze5]⟩) = 2 from by
      simp only [cntF, cntB, List.foldl_cons, List.foldl_nil]
      show IntKind.i64.wrap (0 + ((2 : Nat) : Int)) = 2
      decide] at this; exact this
  have h3 : FC Tryz.prog 9 [.agg (Zar ⟨[aw18G]⟩)] (iv 1) := by
    have := c_Count ⟨[aw18G]⟩
    rw [show cntF 0 (Zal.funcs ⟨[aw18G]⟩) = 1 from by
      simp only [cntF, cntB, List.foldl_cons, List.foldl_nil]
      show IntKind.i64.wrap (0 + ((1 : Nat) : Int)) = 1
      decide] at this; exact this
  have e1 : ([aw18G] : List Func).length = 1 := rfl
  have e2 : (([aw18G] : List Func).getD (Int.toNat 0) default).blocks.length = 1 := rfl
  have e3 : ((([aw18G] : List Func).getD (Int.toNat 0) default).blocks.getD (Int.toNat 0) default).ins.length = 1 := rfl
  (repeat' (refine Zab tok (by rfl) ?_; conv => whnf))
  refine .inl ⟨_, _, _, uG (QC.fc h1 rfl), ?_⟩
  conv => whnf
  ((repeat' first | refine Zad ?_ | (refine Zab tok (by rfl) ?_; conv => whnf) | (refine Zag ?_; conv => whnf) | (refine Zah ?_; conv => whnf) | refine Zaf rfl (fun hb => ?_) (fun hb => ?_) | (refine @And.intro (Zaa _ _ _ _) _ ?_ ?_; rotate_left; (conv => whnf); rotate_right)); all_goals (try ((guard_target = Zaa _ _ _ _); ((refine Za4 ?_; intro hgd; (conv at hgd => whnf); (try simp (disch := omega) only [wrap64] at hgd))); (all_goals (try simp only [Zaa, kzz, kz11, kz12, maxL, Zac] at *)); all_goals omega)))
  · exfalso; revert hb; decide
  clear hb
  refine .inl ⟨_, _, _, uG (QC.fc h2 rfl), ?_⟩
  conv => whnf
  skip
  refine .inl ⟨_, _, _, uG (QC.fc h3 rfl), ?_⟩
  conv => whnf
  (repeat' (refine Zah ?_; conv => whnf))
  exact ⟨_, rfl, Rel.bool rfl⟩
end Go.Proofs.YtngcbpijejbibaaGreat
namespace Go.Proofs.YtngcbpijejbibaaGreat
open Go Dv
set_option maxRecDepth 10000
set_option linter.unusedSimpArgs false
theorem Cln.sub {a b : List Ins} (h : Cln a b) : a.length ≤ b.length ∧ ∀ x ∈ a, x ∈ b := by
  induction h with
  | nil => exact ⟨Nat.le_refl _, fun _ h => h⟩
  | keep h ih => exact ⟨by simp; exact ih.1, fun x hx => by
      rcases List.mem_cons.1 hx with e | e
      · rw [e]; exact List.mem_cons_self
      · exact List.mem_cons_of_mem _ (ih.2 x e)⟩
  | drop hx h ih => exact ⟨by simp; have := ih.1; omega, fun x hx => List.mem_cons_of_mem _ (ih.2 x hx)⟩
theorem Zf1 {m : Zal} {k : Nat} (h : k < m.funcs.length) : (m.funcs.map Zcc).getD k default = Zcc (m.funcs.getD k default) := by
  rw [List.getD_eq_getElem?_getD, List.getElem?_map, List.getElem?_eq_getElem h, Zbq default h]; rfl
theorem args_idle (m : Zal) (f : Func) (n : Int) (l : List Int) : Zer ⟨m.funcs.map Zcc⟩ (Zcc f) n l = Zer m f n l := by
  unfold Zer
  simp only [List.length_map]
  cases h : inn n m.funcs.length with
  | false => rfl
  | true =>
    have := (Zac _ _).1 h
    rw [Zf1 (by omega)]; rfl
theorem Zf4 (f : Func) : (Zcc f).blocks.length = f.blocks.length := Zdl f _
theorem goal_idle (f : Func) (n : Int) : Zf6 (Zcc f) n = Zf6 f n := by
  unfold Zf6
  rw [Zf4]
  rw [show ((Zcc f).blocks.getD n.toNat default).landing = (f.blocks.getD n.toNat default).landing from (cutB_same f _ _).2.2.1]
theorem ins_idle {m : Zal} {f : Func} {x : Ins} (h : InsP m f x) : InsP ⟨m.funcs.map Zcc⟩ (Zcc f) x := by
  unfold InsP at h ⊢
  rw [args_idle]; exact h
theorem end_idle {m : Zal} {f : Func} {x : End} (h : EndP m f x) : EndP ⟨m.funcs.map Zcc⟩ (Zcc f) x := by
  unfold EndP at h ⊢
  rw [args_idle, goal_idle, goal_idle, Zf4, show ((Zcc f).blocks.getD x.pad.toNat default).landing = (f.blocks.getD x.pad.toNat default).landing from (cutB_same f _ _).2.2.1]; exact h
theorem func_idle {m : Zal} {f : Func} (h : Zdo m f = true) : Zdo ⟨m.funcs.map Zcc⟩ (Zcc f) = true := by
  have hP := okF_funP h
  unfold Zdo
  rw [Bool.and_eq_true, decide_eq_true_eq, List.all_eq_true]
  refine ⟨?_, fun b hb => ?_⟩
  · unfold FunP at hP ⊢
    rw [Zf4, show ((Zcc f).blocks.getD 0 default).landing = (f.blocks.getD 0 default).landing from (cutB_same f _ _).2.2.1]; exact hP
  · obtain ⟨q, hq, e⟩ := List.getElem_of_mem hb
    rw [Zf4] at hq
    have e2 : (Zcc f).blocks.getD q default = b := by rw [Zbq default (by rw [Zf4]; exact hq)]; exact e
    have hs := cutB_same f (Zbs f).length q
    rw [show (cutB f (Zbs f).length).getD q default = b from e2] at hs
    have hB := func_blocks h hq
    generalize f.blocks.getD q default = c at hs hB
    unfold blkB at hB ⊢
    rw [Bool.and_eq_true, decide_eq_true_eq, List.all_eq_true] at hB ⊢
    obtain ⟨⟨h1, h2, h3⟩, h4⟩ := hB
    have hc := hs.2.2.2.sub
    refine ⟨⟨by omega, ?_, ?_⟩, fun x hx => ?_⟩
    · unfold PadP at h2 ⊢
      rw [hs.1, hs.2.2.1]; exact h2
    · rw [hs.2.1]; exact end_idle h3
    · have := h4 x (hc.2 x hx)
      rw [decide_eq_true_eq] at this ⊢
      exact ins_idle this
theorem right_idle {m : Zal} (h : Zbc m = true) : Zbc (Zeu m) = true := by
  unfold Zeu
  rw [if_pos h]
  have h' := h
  unfold Zbc at h ⊢
  rw [Bool.and_eq_true, decide_eq_true_eq, List.all_eq_true] at h ⊢
  obtain ⟨⟨h1, h2, h3⟩, h4⟩ := h
  refine ⟨⟨by simp only [List.length_map]; exact h1, by simp only [List.length_map]; exact h2, ?_⟩, fun f hf => ?_⟩
  · rw [Zf1 (by omega)]; exact h3
  · obtain ⟨g, hg, rfl⟩ := List.mem_map.1 hf
    exact func_idle (h4 g hg)
theorem rmod_idle {m : Zal} (h : Zbc m = true) : ∃ A H, RMod m (Zeu m) A H := by
  have hex : ∀ k, ∃ p : (Nat → Nat → Bool) × (Nat → Nat → Bool), k < m.funcs.length → LvF (m.funcs.getD k default) (Zcc (m.funcs.getD k default)) p.1 p.2 := fun k => by
    by_cases hk : k < m.funcs.length
    · obtain ⟨A, H, hA⟩ := lv_idle (Zew h hk)
      exact ⟨(A, H), fun _ => hA⟩
    · exact ⟨(fun _ _ => true, fun _ _ => true), fun e => absurd e hk⟩
  obtain ⟨p, hp⟩ := Classical.skolem.1 hex
  refine ⟨fun k => (p k).1, fun k => (p k).2, ?_, fun k hk => ?_⟩
  · unfold Zeu; rw [if_pos h]; simp
  · rw [show (Zeu m).funcs.getD k default = Zcc (m.funcs.getD k default) from by unfold Zeu; rw [if_pos h]; exact Zf1 hk]
    exact hp k hk
theorem new_relM {m n : Zal} {A H : Nat → Nat → Nat → Bool} (hM : RMod m n A H) (hm : Zbc m = true) (inputs : List Int) : RelM (RelF m n H) (newM m inputs) (newM n inputs) := by
  refine ⟨⟨rfl, rfl, rfl⟩, rfl, rfl, fun _ => ⟨rfl, fun i hi => ?_⟩⟩
  have hi0 : i = 0 := by have : i < 1 := hi; omega
  subst hi0
  exact new_rel hM hm (by omega) (by have := (right0 hm).1; omega) []
theorem idle_alike {m : Zal} {inputs : List Int} (hm : Zbc m = true) (hi : (∀ x ∈ inputs, 0 ≤ x ∧ x ≤ 65535) ∧ inputs.length < 1000000) (i : Nat) : ∃ j, j ≤ i * 1 ∧ TellA (runM m inputs i) (runM (Zeu m) inputs j) := by
  obtain ⟨A, H, hM⟩ := rmod_idle hm
  have hn := right_idle hm
  obtain ⟨j, hj, hR⟩ := sim_of (k := 1) (R := RelM (RelF m (Zeu m) H)) (new_relM hM hm inputs) (fun i j hR hd => by
    rcases clean_step hM hm (okM_run hm hi i) (okM_run hn hi j) hR hd with h | h
    · exact ⟨0, by omega, h⟩
    · exact ⟨1, by omega, h⟩) i
  exact ⟨j, hj, hR.tell⟩
theorem cntB_eq : ∀ {l : List Zby} {a : Int}, 0 ≤ a → a + ((l.map fun b => b.ins.length).sum : Nat) < 1000000000 → cntB a l = a + ((l.map fun b => b.ins.length).sum : Nat)
  | [], a, _, _ => by simp [cntB]
  | b :: l, a, h0, h => by
      rw [List.map_cons, List.sum_cons] at h ⊢
      show cntB (IntKind.i64.wrap (a + b.ins.length)) l = _
      rw [wrap64 (by omega) (by omega), cntB_eq (by omega) (by omega)]
      omega
theorem cntF_eq : ∀ {l : List Func} {a : Int}, 0 ≤ a → a + ((l.map many).sum : Nat) < 1000000000 → cntF a l = a + ((l.map many).sum : Nat)
  | [], a, _, _ => by simp [cntF]
  | f :: l, a, h0, h => by
      rw [List.map_cons, List.sum_cons] at h ⊢
      have e : many f = (f.blocks.map fun b => b.ins.length).sum := rfl
      show cntF (cntB a f.blocks) l = _
      rw [cntB_eq h0 (by rw [e] at h; omega), cntF_eq (by omega) (by rw [e] at h; omega), e]
      omega
theorem sum_le {α : Type} (d : α) (f : α → Nat) : ∀ {a b : List α}, a.length = b.length → (∀ i, i < a.length → f (a.getD i d) ≤ f (b.getD i d)) → (a.map f).sum ≤ (b.map f).sum
  | [], [], _, _ => Nat.le_refl _
  | x :: a, y :: b, hl, h => by
      rw [List.map_cons, List.map_cons, List.sum_cons, List.sum_cons]
      have h0 := h 0 (by simp)
      have := sum_le d f (a := a) (b := b) (by simpa using hl) (fun i hi => by have := h (i + 1) (by simpa using hi); simpa using this)
      have h1 : f x ≤ f y := h0
      omega
theorem many_idle (f : Func) : many (Zcc f) ≤ many f := sum_le default _ (Zf4 f) (fun i hi => by rw [Zf4] at hi; exact (idleF_at hi).1.sub.1)
theorem tot_idle {m : Zal} (h : Zbc m = true) : ((Zeu m).funcs.map many).sum ≤ (m.funcs.map many).sum := by
  unfold Zeu; rw [if_pos h]
  refine sum_le default many (by simp) (fun i hi => ?_)
  have hi' : i < m.funcs.length := by simpa using hi
  rw [Zf1 hi']
  exact many_idle _
theorem count_idle {m : Zal} (h : Zbc m = true) (hs : shortB m = true) : cntF 0 (Zeu m).funcs ≤ cntF 0 m.funcs := by
  have ht := tot_idle h
  unfold shortB at hs
  rw [Bool.and_eq_true, decide_eq_true_eq] at hs
  have h2 := hs.2
  rw [cntF_eq (by omega) (by omega), cntF_eq (by omega) (by omega)]
  omega
set_option maxHeartbeats 4000000 in
theorem c_IdleKeeps (m : Zal) (inputs : List Int) (fuel : Int) : FC Tryz.prog 3 [.agg (Zar m), u16s inputs, .int .u8 fuel] (.bool true) := by
  refine Zan tok Tryz.func3 rfl (by decide +kernel) (Nat.le_of_ble_eq_true rfl) ?_
  refine Zao 1 (fun hl => ?_)
  have hwords : ∀ x ∈ inputs, 0 ≤ x ∧ x ≤ 65535 := fun x hx => by
    obtain ⟨i, hi, rfl⟩ := List.getElem_of_mem hx
    have := (hl.2 i hi).1
    rw [Zbq 0 hi] at this; exact this
  clear hl
  refine Zao 2 (fun hl => ?_)
  have hf0 : 0 ≤ fuel ∧ fuel ≤ 255 := hl
  clear hl
  obtain ⟨n, rfl⟩ := Int.eq_ofNat_of_zero_le hf0.1
  have hn : n ≤ 255 := by omega
  have hmx : maxL = 4294967296 := rfl
  (repeat' first | refine Zad ?_ | (refine Zab tok (by rfl) ?_; conv => whnf))
  refine .inl ⟨_, _, _, uG (QC.fc c_awake18 rfl), ?_⟩
  conv => whnf
  (repeat' first | refine Zad ?_ | (refine Zab tok (by rfl) ?_; conv => whnf) | (refine Zag ?_; conv => whnf) | (refine Zah ?_; conv => whnf) | refine Zaf rfl (fun hb => ?_) (fun hb => ?_))
  · cases hb
  clear hb
  refine .inl ⟨_, _, _, uG (QC.fc (c_Small m inputs) rfl), ?_⟩
  conv => whnf
  (repeat' first | refine Zad ?_ | (refine Zab tok (by rfl) ?_; conv => whnf) | (refine Zag ?_; conv => whnf) | (refine Zah ?_; conv => whnf) | refine Zaf rfl (fun hb => ?_) (fun hb => ?_))
  · exact ⟨_, rfl, Rel.bool rfl⟩
  have hsm : smallB m inputs = true := by simpa using hb
  clear hb
  unfold smallB at hsm
  rw [Bool.and_eq_true, decide_eq_true_eq] at hsm
  have hi : (∀ x ∈ inputs, 0 ≤ x ∧ x ≤ 65535) ∧ inputs.length < 1000000 := ⟨hwords, by omega⟩
  refine .inl ⟨_, _, _, uG (QC.fc (c_idleM m) rfl), ?_⟩
  conv => whnf
  (repeat' ((fail_if_success (show AWp _ _ _ (Code.region 7 _ _) _ _)); (fail_if_success (show AWp _ _ _ (Code.region 8 _ _) _ _)); first | refine Zad ?_ | (refine Zab tok (by rfl) ?_; conv => whnf) | (refine Zag ?_; conv => whnf) | refine Zaf rfl (fun hb => ?_) (fun hb => ?_)))
  · have hr : Zbc m = false := by
      cases h : Zbc m with
      | false => rfl
      | true => unfold errM at hb; rw [if_pos h] at hb; cases hb
    (repeat' (refine Zab tok (by rfl) ?_; conv => whnf))
    refine .inl ⟨_, _, _, uG (QC.fc (c_lRight c_lpad m) rfl), ?_⟩
    conv => whnf
    (repeat' (refine Zah ?_; conv => whnf))
    exact ⟨_, rfl, Rel.bool (by rw [hr]; rfl)⟩
  have hr : Zbc m = true := by
    cases h : Zbc m with
    | true => rfl
    | false => unfold errM at hb; rw [if_neg (by rw [h]; simp)] at hb; cases hb
  clear hb
  have hR2 := right_idle hr
  have hcR := c_Right (Zeu m)
  rw [hR2] at hcR
  have hcnt := count_idle hr hsm.1
  have hK := c_Keeps m (Zeu m) inputs n 1 (by omega) (by omega) (by omega) hr hR2 hi
  rw [keep_of (idle_alike hr hi)] at hK
  (repeat' (refine Za0 tok mix (by rfl) ?_; conv => whnf))
  refine .inl ⟨_, _, _, uG (QC.fc hcR rfl), ?_⟩
  conv => whnf
  skip
  refine .inl ⟨_, _, _, uG (QC.fc (c_Count (Zeu m)) rfl), ?_⟩
  conv => whnf
  skip
  refine .inl ⟨_, _, _, uG (QC.fc (c_Count m) rfl), ?_⟩
  conv => whnf
  skip
  have hK2 : ∀ y, y = (n : Int) → FC Tryz.prog 10 [.agg (Zar m), .agg (Zar (Zeu m)), u16s inputs, .int .i64 y, iv 1] (.bool true) := fun y e => by rw [e]; exact hK
  refine .inl ⟨_, _, _, uG (QC.fc (hK2 _ (wrap64 (by omega) (by omega))) rfl), ?_⟩
  conv => whnf
  (repeat' (refine Zah ?_; conv => whnf))
  refine ⟨_, rfl, Rel.bool ?_⟩
  rw [decide_eq_true hcnt]; rfl
end Go.Proofs.YtngcbpijejbibaaGreat
namespace Go.Proofs.YtngcbpijejbibaaGreat
open Go Dv Go.ChangeShapes Go.WideShapes Go.ChangeAt Go.RowKit
open Go.Proofs.YtngcbpijejbibaaGreat
set_option maxRecDepth 10000
set_option linter.unusedVariables false
section
variable {H : Type} {enc : TypeId × Value → H} {w : World}
abbrev Sm (H : Type) : DataW H → Prop := fun d => Rows.uptoBulk d ≤ 1048576
theorem bulk_all {ds : List (DataW H)} {n : Nat} (h : Rows.uptoBulkAll ds ≤ n) : ∀ d ∈ ds, Rows.uptoBulk d ≤ n := by
  induction ds with
  | nil => intro d hd; cases hd
  | cons x r ih =>
    simp only [Rows.uptoBulkAll] at h
    intro d hd
    simp only [List.mem_cons] at hd
    rcases hd with rfl | hd
    · omega
    · exact ih (by omega) d hd
theorem bulk_pos (d : DataW H) : 1 ≤ Rows.uptoBulk d := by
  cases d with
  | lit l => cases l <;> simp only [Rows.uptoBulk] <;> omega
  | _ => simp only [Rows.uptoBulk]; omega
theorem bulk_len {ds : List (DataW H)} {n : Nat} (h : Rows.uptoBulkAll ds ≤ n) : ds.length ≤ n := by
  induction ds generalizing n with
  | nil => simp
  | cons x r ih =>
    simp only [Rows.uptoBulkAll] at h
    have := bulk_pos x
    have := ih (n := n - Rows.uptoBulk x) (by omega)
    simp only [List.length_cons]; omega
theorem sm_agg (ds : List (DataW H)) (h : Sm H (.agg ds)) : ∀ d ∈ ds, Sm H d := by
  simp only [Sm, Rows.uptoBulk] at h; exact bulk_all (by omega)
theorem sm_slice (es sp : List (DataW H)) (h : Sm H (.slice es sp)) : es.length ≤ maxL ∧ ∀ x ∈ es, Sm H x := by
  simp only [Sm, Rows.uptoBulk] at h
  have h1 : Rows.uptoBulkAll es ≤ 1048576 := by omega
  exact ⟨Nat.le_trans (bulk_len h1) (by decide), bulk_all h1⟩
theorem Zd9 : Rd enc Tryz.prog w (Sm H) 3 Int (fun n => [iv n]) := Rd.int Tryz.underlying3
theorem rd_u16 : Rd enc Tryz.prog w (Sm H) 35 Int (fun n => [.int .u16 n]) := Rd.int Tryz.underlying35
theorem rd_bool : Rd enc Tryz.prog w (Sm H) 4 Bool (fun b => [.bool b]) := Rd.bool Tryz.underlying4
theorem rd_ints : Rd enc Tryz.prog w (Sm H) 36 (List Int) (fun l => [ints l]) := Rd.slice Tryz.underlying36 (by decide +kernel) (Nat.le_refl _) (fun _ => ⟨rfl, rfl⟩) Zd9 sm_slice
theorem rd_u16s : Rd enc Tryz.prog w (Sm H) 25 (List Int) (fun l => [u16s l]) := Rd.slice Tryz.underlying25 (by decide +kernel) (Nat.le_refl _) (fun _ => ⟨rfl, rfl⟩) rd_u16 sm_slice
theorem rd_Ins : Rd enc Tryz.prog w (Sm H) 38 Ins Za2 :=
  Rd.map (fun x => ⟨x.1, x.2.1, x.2.2.1, x.2.2.2.1, x.2.2.2.2.1, x.2.2.2.2.2.1, x.2.2.2.2.2.2.1⟩)
    (Rd.struct (fl := [(3, 1), (3, 1), (3, 1), (3, 1), (35, 1), (3, 1), (36, 1)]) Tryz.underlying38 (.cons Zd9 (.cons Zd9 (.cons Zd9 (.cons Zd9 (.cons rd_u16 (.cons Zd9 (.cons rd_ints .nil)))))))
      rfl (by decide +kernel) (by decide +kernel) sm_agg) (fun _ => rfl)
theorem rd_inss : Rd enc Tryz.prog w (Sm H) 39 (List Ins) (fun l => [inss l]) := Rd.slice Tryz.underlying39 (by decide +kernel) (by decide) (fun _ => ⟨rfl, rfl⟩) rd_Ins sm_slice
theorem rd_End : Rd enc Tryz.prog w (Sm H) 41 End Zdk :=
  Rd.map (fun x => ⟨x.1, x.2.1, x.2.2.1, x.2.2.2.1, x.2.2.2.2.1, x.2.2.2.2.2.1, x.2.2.2.2.2.2.1, x.2.2.2.2.2.2.2.1⟩)
    (Rd.struct (fl := [(3, 1), (3, 1), (3, 1), (3, 1), (36, 1), (3, 1), (3, 1), (3, 1)]) Tryz.underlying41 (.cons Zd9 (.cons Zd9 (.cons Zd9 (.cons Zd9 (.cons rd_ints (.cons Zd9 (.cons Zd9 (.cons Zd9 .nil))))))))
      rfl (by decide +kernel) (by decide +kernel) sm_agg) (fun _ => rfl)
theorem rd_Pad : Rd enc Tryz.prog w (Sm H) 43 Pad Zez :=
  Rd.map (fun x => ⟨x.1, x.2.1, x.2.2.1, x.2.2.2.1⟩)
    (Rd.struct (fl := [(3, 1), (25, 1), (4, 1), (4, 1)]) Tryz.underlying43 (.cons Zd9 (.cons rd_u16s (.cons rd_bool (.cons rd_bool .nil))))
      rfl (by decide +kernel) (by decide +kernel) sm_agg) (fun _ => rfl)
theorem rd_Block : Rd enc Tryz.prog w (Sm H) 45 Zby Za8 :=
  Rd.map (fun x => ⟨x.1, x.2.1, x.2.2.1, x.2.2.2.1⟩)
    (Rd.struct (fl := [(4, 1), (43, 4), (39, 1), (41, 8)]) Tryz.underlying45 (.cons rd_bool (.cons rd_Pad (.cons rd_inss (.cons rd_End .nil))))
      rfl (by decide +kernel) (by decide +kernel) sm_agg) (fun _ => rfl)
theorem rd_blocks : Rd enc Tryz.prog w (Sm H) 46 (List Zby) (fun l => [Zcm l]) := Rd.slice Tryz.underlying46 (by decide +kernel) (by decide) (fun _ => ⟨rfl, rfl⟩) rd_Block sm_slice
theorem rd_Func : Rd enc Tryz.prog w (Sm H) 48 Func Za1 :=
  Rd.map (fun x => ⟨x.1, x.2.1, x.2.2.1⟩)
    (Rd.struct (fl := [(3, 1), (3, 1), (46, 1)]) Tryz.underlying48 (.cons Zd9 (.cons Zd9 (.cons rd_blocks .nil)))
      rfl (by decide +kernel) (by decide +kernel) sm_agg) (fun _ => rfl)
theorem rd_funcs : Rd enc Tryz.prog w (Sm H) 22 (List Func) (fun l => [funcss l]) := Rd.slice Tryz.underlying22 (by decide +kernel) (by decide) (fun _ => ⟨rfl, rfl⟩) rd_Func sm_slice
theorem rd_Module : Rd enc Tryz.prog w (Sm H) 24 Zal Zar :=
  Rd.map (fun x => ⟨x.1⟩)
    (Rd.struct (fl := [(22, 1)]) Tryz.underlying24 (.cons rd_funcs .nil)
      rfl (by decide +kernel) (by decide +kernel) sm_agg) (fun _ => rfl)
end
theorem small_of {H : Type} {ds gs : List (DataW H)} (hk : Rows.uptoSmall H (ds ++ gs) = true) : ∀ d ∈ ds, Sm H d := by
  have h := of_decide_eq_true hk
  exact fun d hd => bulk_all h d (List.mem_append_left _ hd)
end Go.Proofs.YtngcbpijejbibaaGreat
namespace Go.Proofs.YtngcbpijejbibaaGreat
open Go Dv Go.ChangeShapes Go.WideShapes Go.ChangeAt Go.RowKit
open Go.Proofs.YtngcbpijejbibaaGreat
set_option maxRecDepth 100000
set_option linter.unusedVariables false
namespace idleKeeps
theorem own : ownKnob Tryz.prog.godebug = none := by kernel_rfl
theorem contract (H : Type) (enc : TypeId × Value → H) (W : World) (base : Nat) (args : Array Value) (ds gs : List (DataW H)) (before : List MemPlace) (hk : Rows.uptoSmall H (ds ++ gs) = true)
    (hval : ∀ (j : Nat) t v, Tryz.f3.params[j]? = some t → args[j]? = some v → Value.okWide Tryz.prog W .any base t v)
    (hW : DataW.Whole enc Tryz.prog Tryz.f3.params.toList Rows.idleKeepsSpec.vars false W args.toList ds gs before) :
    Calls Tryz.prog 3 args W fun e W' => ∃ v, e = .returned v ∧ Rows.idleKeepsSpec.post enc Tryz.prog Tryz.f3 false true false false W args v W' := by
  have hsm := small_of hk
  have hW' := hW
  obtain ⟨p, q, hA0, hV, rfl, hfz, hnd⟩ := hW
  have hA : DataW.TrodAll enc Tryz.prog W 0 (fun _ => true) true Tryz.f3.params.toList args.toList ds p := hA0
  rw [Tryz.params3] at hA hval
  obtain ⟨v0, vs0, d0, ds0, p0, q0, hargs, rfl, rfl, h0, r0⟩ := trodAll_cons hA
  obtain ⟨v1, vs1, d1, ds1, p1, q1, rfl, rfl, rfl, h1, r1⟩ := trodAll_cons r0
  obtain ⟨v2, vs2, d2, ds2, p2, q2, rfl, rfl, rfl, h2, r2⟩ := trodAll_cons r1
  obtain ⟨rfl, rfl, rfl⟩ := trodAll_nil r2
  obtain rfl : args = #[v0, v1, v2] := by cases args; simp_all
  obtain ⟨x0, hx0⟩ := arg_struct Tryz.underlying24 (hval 0 _ v0 rfl rfl) h0 rd_Module (hsm d0 (by simp))
  obtain ⟨x1, hx1⟩ := arg_slice Tryz.underlying25 (hval 1 _ v1 rfl rfl) h1 rd_u16s (hsm d1 (by simp))
  obtain ⟨x2, hx2⟩ := arg_int Tryz.underlying5 (hval 2 _ v2 rfl rfl) h2
  have hb2 := hx2
  simp only [V] at hb2
  obtain ⟨rfl, rfl⟩ := trodVars_none hV
  refine law_contract (tb := 4) (by decide +kernel) (by rw [Tryz.params3]; decide +kernel) rfl (by kernel_rfl) Tryz.underlying4 hW' ⟨rfl, rfl, rfl⟩ (FC.calls (c_IdleKeeps x0 x1 x2) ?_)
  simp only [Vs]
  exact ⟨_, _, rfl, hx0, _, _, rfl, hx1, _, _, rfl, hx2, rfl⟩
theorem lifted (os : Os) (started : os.Started) (H : Type) (enc : TypeId × Value → H) (F : Stop.Interp) :
    ReturnsInHanded {} Tryz.checked os 3 .any ((Rows.OpenSpec.upto Rows.idleKeepsSpec).pre6 enc Tryz.prog Tryz.f3 Rows.idleKeepsUptoRow.domain false) (((Rows.OpenSpec.upto Rows.idleKeepsSpec).at F).post enc Tryz.prog Tryz.f3 false true false false) := by
  refine returnsInHanded_of_cond (C := Tryz.checked) (s := Rows.OpenSpec.upto Rows.idleKeepsSpec) (k := Rows.uptoSmall) rfl own started (by kernel_rfl) Tryz.func3
    (OpenSpec.witness (enc := enc) (C := Tryz.checked) (s := Rows.OpenSpec.upto Rows.idleKeepsSpec) (k := Rows.uptoSmall) rfl false ⟨#[], #[.agg #[.slice none 0 0], .slice none 0 0, .int .u8 0], []⟩ 64 (by kernel_rfl) (by kernel_rfl) (by kernel_rfl)
      (x := ([.agg [.nil], .nil, .lit (.int .u8 0)], [], [])) (by kernel_rfl) rfl (by kernel_rfl)) ?_
  intro W base args ds gs before hval hW _ hk _
  exact contract H enc W base args ds gs before hk hval hW
theorem over : Rows.idleKeepsUptoRow.holds Tryz.pinned (Rows.OpenSpec.upto Rows.idleKeepsSpec) :=
  OpenClaim.holds_of_cond 3 Tryz.f3 rfl rfl rfl rfl rfl rfl rfl ⟨rfl, rfl, rfl, rfl, rfl⟩ rfl rfl rfl rfl rfl (by kernel_rfl) Tryz.func3 (by kernel_rfl)
    (of_decide_eq_true (by kernel_rfl)) (by unfold Func.isWrapper; first | (rw [if_pos (by decide +kernel)]; kernel_rfl) | (rw [if_neg (by decide +kernel)]; exact ⟨rfl, rfl⟩))
    (fun os started H enc _ F => lifted os started H enc F)
end idleKeeps
theorem idleKeeps_holds : Rows.IdleKeepsUptoSaid := idleKeeps.over
end Go.Proofs.YtngcbpijejbibaaGreat
