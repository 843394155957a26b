/- Whatever a module, the words told to it, and the steps: what calm.Module calms may be, throws out of the same functions, stays if calmed again, leaves no invoke of one that does not throw but in a full block, and does the same in at most twice as many steps, as davitref06 runs both. -/
import Derived.Test.YtoelbgjpmpoolaaGreatDvc3
import Derived.Test.YtoelbgjpmpoolaaGreatLawCalmKeeps2
import Derived.Test.YtoelbgjpmpoolaaGreatRows
import Derived.WalkKit
import Derived.ProofKit
import Derived.OpenShut
import Derived.JoinedCond
set_option linter.unusedVariables false
set_option linter.unusedSimpArgs false
set_option linter.unnecessarySimpa false
namespace Go.Proofs.YtoelbgjpmpoolaaGreat
open Go Dv
set_option maxRecDepth 10000
set_option linter.unusedSimpArgs false
def sel (b : Bool) (x y : AV) : AV := bif b then x else y
def blkO (b : Zbe) (x : AV) : List AV := [.bool b.landing, iv b.pad.dst, u16s b.pad.catch_, .bool b.pad.all, .bool b.pad.cleanup, x, iv b.fin.kind, iv b.fin.a, iv b.fin.dst, iv b.fin.f, ints b.fin.args, iv b.fin.to, iv b.fin.els, iv b.fin.pad]
def insR (l : List Ins) : Zar := .row true 7 l.length (fun j => Zbc (l.getD j default))
def blkR (i : Nat) (l : List Zbe) (k : Nat) (c : Nat → AV) : Zar := .row false 14 l.length (fun q => blkO (l.getD q default) (sel (Nat.blt q k) (.rs (1001, i, q) 7 0 (l.getD q default).ins.length) (c q)))
def funR (l : List Func) (k : Nat) (c : Nat → AV) : Zar := .row false 3 l.length (fun j => [iv (l.getD j default).params, iv (l.getD j default).regs, sel (Nat.blt j k) (.rs (1000, j, 0) 14 0 (l.getD j default).blocks.length) (c j)])
def insF (l : List Func) (n k : Nat) : Zaq := famC 1001 (fun i q => bif (Nat.blt i n && Nat.blt q (l.getD i default).blocks.length) || (Nat.beq i n && Nat.blt q k) then some (insR ((l.getD i default).blocks.getD q default).ins) else none)
def blkF (l : List Func) (n : Nat) : Zaq := famC 1000 (fun i z => bif Nat.beq z 0 && Nat.blt i n then some (blkR i (l.getD i default).blocks (l.getD i default).blocks.length (fun _ => .any)) else none)
theorem Zbg {a i : Nat} (h : i ≤ a) {x y : AV} : sel (Nat.blt a i) x y = y := by
  have : Nat.blt a i = false := by rw [Bool.eq_false_iff]; intro h2; rw [Nat.blt_eq] at h2; omega
  rw [this]; rfl
theorem Za8 {a i : Nat} (h : a < i) {x y : AV} : sel (Nat.blt a i) x y = x := by
  have : Nat.blt a i = true := by rw [Nat.blt_eq]; exact h
  rw [this]; rfl
theorem Zdn {i : Nat} {x y : AV} : sel (Nat.beq i i) x y = x := by
  have : Nat.beq i i = true := by simp
  rw [this]; rfl
theorem Zez {i j : Nat} (h : i ≠ j) {x y : AV} : sel (Nat.beq i j) x y = y := by
  have : Nat.beq i j = false := by rw [Bool.eq_false_iff]; intro h2; exact h (Nat.eq_of_beq_eq_true h2)
  rw [this]; rfl
theorem beq0_and {z n i : Nat} : (Nat.beq z 0 && Nat.blt i n) = true ↔ z = 0 ∧ i < n := by
  rw [Bool.and_eq_true, Nat.blt_eq]; simp
theorem blkF_some {l : List Func} {n : Nat} {j : Dv.Id} {b : Zar} (h : blkF l n j = some b) : ∃ i, j = (1000, i, 0) ∧ i < n ∧ b = blkR i (l.getD i default).blocks (l.getD i default).blocks.length (fun _ => .any) := by
  obtain ⟨p, q, rfl, h3⟩ := famC_some h
  cases e : (Nat.beq q 0 && Nat.blt p n) with
  | false => rw [e] at h3; cases h3
  | true =>
    rw [e] at h3
    obtain ⟨rfl, h2⟩ := beq0_and.1 e
    exact ⟨p, rfl, h2, (Option.some.inj h3).symm⟩
theorem blkF_at {l : List Func} {n i : Nat} (h : i < n) : blkF l n (1000, i, 0) = some (blkR i (l.getD i default).blocks (l.getD i default).blocks.length (fun _ => .any)) := by
  show (bif (Nat.beq 0 0 && Nat.blt i n) then _ else none) = _
  rw [beq0_and.2 ⟨rfl, h⟩]; rfl
theorem insC {n k i q nb : Nat} : ((Nat.blt i n && Nat.blt q nb) || (Nat.beq i n && Nat.blt q k)) = true ↔ (i < n ∧ q < nb) ∨ (i = n ∧ q < k) := by
  rw [Bool.or_eq_true, Bool.and_eq_true, Bool.and_eq_true, Nat.blt_eq, Nat.blt_eq, Nat.blt_eq]; simp
theorem insF_some {l : List Func} {n k : Nat} {j : Dv.Id} {b : Zar} (h : insF l n k j = some b) : ∃ i q, j = (1001, i, q) ∧ ((i < n ∧ q < (l.getD i default).blocks.length) ∨ (i = n ∧ q < k)) ∧ b = insR ((l.getD i default).blocks.getD q default).ins := by
  obtain ⟨p, q, rfl, h3⟩ := famC_some h
  cases e : ((Nat.blt p n && Nat.blt q (l.getD p default).blocks.length) || (Nat.beq p n && Nat.blt q k)) with
  | false => rw [e] at h3; cases h3
  | true => rw [e] at h3; exact ⟨p, q, rfl, insC.1 e, (Option.some.inj h3).symm⟩
theorem insF_at {l : List Func} {n k i q : Nat} (h : (i < n ∧ q < (l.getD i default).blocks.length) ∨ (i = n ∧ q < k)) : insF l n k (1001, i, q) = some (insR ((l.getD i default).blocks.getD q default).ins) := by
  show (bif ((Nat.blt i n && Nat.blt q (l.getD i default).blocks.length) || (Nat.beq i n && Nat.blt q k)) then _ else none) = _
  rw [insC.2 h]; rfl
def treeF (l : List Func) (n k : Nat) : Zaq := orH (blkF l n) (insF l n k)
theorem Zbj {l : List Func} {n k i : Nat} (h : i < n) : treeF l n k (1000, i, 0) = some (blkR i (l.getD i default).blocks (l.getD i default).blocks.length (fun _ => .any)) := by
  unfold treeF orH; rw [blkF_at h]
theorem Zbf {l : List Func} {n k i q : Nat} (h : (i < n ∧ q < (l.getD i default).blocks.length) ∨ (i = n ∧ q < k)) : treeF l n k (1001, i, q) = some (insR ((l.getD i default).blocks.getD q default).ins) := by
  show insF l n k (1001, i, q) = _
  exact insF_at h
theorem Zce {l : List Func} {n k : Nat} {j : Dv.Id} {b : Zar} (h : treeF l n k j = some b) : (∃ i, j = (1000, i, 0) ∧ i < n ∧ b = blkR i (l.getD i default).blocks (l.getD i default).blocks.length (fun _ => .any)) ∨
    ∃ i q, j = (1001, i, q) ∧ ((i < n ∧ q < (l.getD i default).blocks.length) ∨ (i = n ∧ q < k)) ∧ b = insR ((l.getD i default).blocks.getD q default).ins := by
  rcases orH_some h with e | ⟨_, e⟩
  · exact .inl (blkF_some e)
  · exact .inr (insF_some e)
def copyH (l : List Func) : Zaq := orH (Zbz [((900, 0, 0), funR l l.length (fun _ => .any))]) (treeF l l.length 0)
section
variable {src : Dv.Id → Option Dv.Id} {h h' : Zaq}
theorem Zd4 (l : List Ins) : GB src h h' (insR l) (insR l) := GB.rowI (Nat.le_refl _) (fun _ _ => ⟨rfl, rfl⟩)
theorem Zex {b : Zbe} {x y : AV} (hx : GV src h h' x y) : GVs src h h' (blkO b x) (blkO b y) :=
  .cons (.imm rfl) (.cons (.imm rfl) (.cons (.imm rfl) (.cons (.imm rfl) (.cons (.imm rfl) (.cons hx (GVs.imm rfl))))))
theorem Zdk {i i' : Nat} {l : List Zbe} {k k' : Nat} {c c' : Nat → AV} (hc : ∀ q, q < l.length → GV src h h' (sel (Nat.blt q k) (.rs (1001, i, q) 7 0 (l.getD q default).ins.length) (c q)) (sel (Nat.blt q k') (.rs (1001, i', q) 7 0 (l.getD q default).ins.length) (c' q))) :
    GB src h h' (blkR i l k c) (blkR i' l k' c') := GB.row (Nat.le_refl _) (fun q hq => Zex (hc q hq)) (fun e => by cases e)
theorem GB_fun {l : List Func} {k k' : Nat} {c c' : Nat → AV} (hc : ∀ q, q < l.length → GV src h h' (sel (Nat.blt q k) (.rs (1000, q, 0) 14 0 (l.getD q default).blocks.length) (c q)) (sel (Nat.blt q k') (.rs (1000, q, 0) 14 0 (l.getD q default).blocks.length) (c' q))) :
    GB src h h' (funR l k c) (funR l k' c') := GB.row (Nat.le_refl _) (fun q hq => .cons (.imm rfl) (.cons (.imm rfl) (.cons (hc q hq) .nil))) (fun e => by cases e)
end
theorem keep_fun {src : Dv.Id → Option Dv.Id} {h h' : Zaq} {i j n m : Nat} {x : AV} {b b2 : Zar} (h1 : j < i → h' (1000, j, 0) = some b) (hs : src (1000, j, 0) = some (1000, j, 0)) (h27 : h' (27, 8, 0) = some b2) (hs27 : src (27, 8, 0) = some (27, 8, 0)) (hx : immD x = true) :
    GV src h h' (sel (Nat.blt j i) (.rs (1000, j, 0) 14 0 n) (sel (Nat.beq j i) (.rs (27, 8, 0) 14 0 m) x)) (sel (Nat.blt j i) (.rs (1000, j, 0) 14 0 n) (sel (Nat.beq j i) (.rs (27, 8, 0) 14 0 m) x)) := by
  by_cases hji : j < i
  · exact .cc (Za8 hji) (Za8 hji) (.rs (h1 hji) hs rfl rfl)
  · by_cases e : j = i
    · subst e
      exact .cc (by rw [Zbg (Nat.le_refl _), Zdn]) (by rw [Zbg (Nat.le_refl _), Zdn]) (.rs h27 hs27 rfl rfl)
    · exact .cc (by rw [Zbg (by omega), Zez e]) (by rw [Zbg (by omega), Zez e]) (.imm hx)
theorem tree_hd0 {fs : List Func} {n k : Nat} {c : Dv.Id} (hc : treeF fs n k c = none) : ∀ j, (treeF fs n k j).isSome = true → srcL [] j ≠ some c := fun j hj e => by
  cases e; rw [hc] at hj; cases hj
theorem Zfs {c : Dv.Id} {o : Option Dv.Id} : srcL [(c, o)] c = o := by simp [srcL, Zbh.2 rfl]
theorem Zb3 {c j : Dv.Id} {o : Option Dv.Id} (h : c ≠ j) : srcL [(c, o)] j = some j := by simp [srcL, Zbp.2 h]
theorem updR_self {f : Nat → List AV} {k : Nat} {c : List AV} : updR f k c k = c := by
  unfold updR
  have : Nat.beq k k = true := by simp
  rw [this]; rfl
theorem keep_blk {src : Dv.Id → Option Dv.Id} {h h' : Zaq} {i k q n m : Nat} {x : AV} {b b2 : Zar} (h1 : q < k → h' (1001, i, q) = some b) (hs : src (1001, i, q) = some (1001, i, q)) (h57 : h' (57, 0, 0) = some b2) (hs57 : src (57, 0, 0) = some (57, 0, 0)) (hx : immD x = true := by rfl) :
    GV src h h' (sel (Nat.blt q k) (.rs (1001, i, q) 7 0 n) (sel (Nat.beq q k) (.rs (57, 0, 0) 7 0 m) x)) (sel (Nat.blt q k) (.rs (1001, i, q) 7 0 n) (sel (Nat.beq q k) (.rs (57, 0, 0) 7 0 m) x)) := by
  by_cases hji : q < k
  · exact .cc (Za8 hji) (Za8 hji) (.rs (h1 hji) hs rfl rfl)
  · by_cases e : q = k
    · subst e
      exact .cc (by rw [Zbg (Nat.le_refl _), Zdn]) (by rw [Zbg (Nat.le_refl _), Zdn]) (.rs h57 hs57 rfl rfl)
    · exact .cc (by rw [Zbg (by omega), Zez e]) (by rw [Zbg (by omega), Zez e]) (.imm hx)
theorem c_Copy (fs : List Func) : HF Tryz.prog 49 [.agg (Zan ⟨fs⟩)] (.agg [.rs (900, 0, 0) 3 0 fs.length]) (copyH fs) := by
  refine HF_intro tok Tryz.func49 rfl (by decide +kernel) (Nat.le_of_ble_eq_true rfl) ?_
  refine Zap 0 (fun hl => ?_)
  have hl0 : fs.length ≤ maxL := hl.1.1
  have hmx : maxL = 4294967296 := rfl
  have hl1 : ∀ i, i < fs.length → (fs.getD i default).blocks.length ≤ maxL ∧ ∀ k, k < (fs.getD i default).blocks.length → ((fs.getD i default).blocks.getD k default).ins.length ≤ maxL := fun i hi => by
    have h1 := hl.1.2 i hi
    exact ⟨h1.2.2.1.1, fun k hk => (h1.2.2.1.2 k hk).2.2.2.2.2.1.1⟩
  clear hl
  (repeat' first | refine Zad ?_ | (refine Zab tok (by rfl) ?_; conv => whnf))
  refine .inl ⟨_, _, _, uG (QC.fo (rd := []) (c_CloneFuncs fs) (Ress.imms rfl) (.inl rfl) rfl), ?_⟩
  conv => whnf
  (repeat' first | refine Zad ?_ | (refine Zab tok (by rfl) ?_; conv => whnf) | refine Zai ?_)
  refine Zau (fun i : Nat => mkF [(1, .bp (1, 0, 0) 0), (2, .bp (2, 0, 0) 0), (14, iv fs.length), (15, iv i)]
      [((1, 0, 0), .row false 1 1 (fun _ => [.rs (10, 0, 0) 3 0 fs.length])), ((2, 0, 0), Zal [.nsl]), ((10, 0, 0), funR fs i (fun j => Zbt (fs.getD j default).blocks))] (treeF fs i 0))
    (fun i => i ≤ fs.length) (fun i => fs.length - i) 0 (Nat.zero_le _) ?_ ?_
  · refine Weak.fam [] rfl (fun i hi => by cases hi) ?_ ?_ ?_ (fun i hi => by cases hi)
    · (repeat' first | exact TLg.nil | refine TLg.cons (GV.imm rfl) ?_ | refine TLg.cons (GV.bp rfl rfl) ?_)
      all_goals rfl
    · refine .old rfl rfl (GB.one (.cons (.rs rfl rfl rfl rfl) .nil) (fun e => by cases e)) (.old rfl rfl (GB.one (GVs.imm rfl) (fun _ => rfl)) (.old rfl rfl (GB.row (Nat.le_refl _) (fun j hj => .cons (.imm rfl) (.cons (.imm rfl) (.cons ?_ .nil))) (fun e => by cases e)) .nil))
      rw [Zbg (Nat.zero_le _)]; exact GV.imm rfl
    · intro j b e
      rcases Zce e with ⟨i, _, h, _⟩ | ⟨i, q, _, h, _⟩ <;> omega
  intro i hi
  ((repeat' ((fail_if_success (show AWp _ _ _ (Code.region 6 _ _) _ _)); first | refine Zad ?_ | (refine Zab tok (by rfl) ?_; conv => whnf) | refine Zai ?_ | (refine Zag ?_; conv => whnf) | (refine Zav ?_; conv => whnf) | (refine Zah ?_; conv => whnf) | refine Zaf rfl (fun hb => ?_) (fun hb => ?_) | (refine @And.intro (Zaa _ _ _ _) _ ?_ ?_; rotate_left; (conv => whnf); rotate_right))); all_goals (try ((guard_target = Zaa _ _ _ _); refine Zae ?_; (all_goals (try simp only [Zaa, kzz, kz11, kz12, maxL, Zac] at *)); all_goals omega)))
  · have hlt : i < fs.length := by simp only [decide_eq_true_eq] at hb; omega
    clear hb
    have hz : 0 + (i : Int).toNat = i := by simp
    ((repeat' ((fail_if_success (show AWp _ _ _ (Code.region 7 _ _) _ _)); first | (refine Zab tok (by rfl) ?_; conv => whnf) | (refine @And.intro (Zaa _ _ _ _) _ ?_ ?_; rotate_left; (conv => whnf); rotate_right))); all_goals (try ((guard_target = Zaa _ _ _ _); refine Zae ?_; (all_goals (try simp only [Zaa, kzz, kz11, kz12, maxL, Zac] at *)); all_goals omega)))
    refine fAV (y := Zbt (fs.getD i default).blocks) ?_ ?_
    · show sel _ _ (Zbt (fs.getD (0 + (i : Int).toNat) default).blocks) = _
      rw [hz, Zbg (Nat.le_refl _)]
    conv => whnf
    skip
    refine .inl ⟨_, _, _, uG (QC.fo (rd := []) (c_CloneBlocks (fs.getD i default).blocks) (Ress.imms rfl) (.inl rfl) rfl), ?_⟩
    conv => whnf
    ((repeat' ((fail_if_success (show AWp _ _ _ (Code.region 7 _ _) _ _)); first | refine Zad ?_ | (refine @And.intro (Zaa _ _ _ _) _ ?_ ?_; rotate_left; (conv => whnf); rotate_right))); all_goals (try ((guard_target = Zaa _ _ _ _); refine Zae ?_; (all_goals (try simp only [Zaa, kzz, kz11, kz12, maxL, Zac] at *)); all_goals omega)))
    have hbs : ∃ bs, (fs.getD i default).blocks = bs := ⟨_, rfl⟩
    obtain ⟨bs, hbs⟩ := hbs
    refine Zay (Weak.fam (tl := [(1, .bp (1, 0, 0) 0), (2, .bp (2, 0, 0) 0), (14, iv fs.length), (15, iv i), (4, .rp (10, 0, 0) 3 i 0)]) (hl := [((1, 0, 0), .row false 1 1 (fun _ => [.rs (10, 0, 0) 3 0 fs.length])), ((2, 0, 0), Zal [.nsl]), ((10, 0, 0), funR fs i (fun j => sel (Nat.beq j i) (.rs (27, 8, 0) 14 0 bs.length) (Zbt (fs.getD j default).blocks))), ((27, 8, 0), blkR i bs 0 (fun q => inss (bs.getD q default).ins))]) (F := treeF fs i 0) [((27, 8, 0), some (27, 0, 0))] rfl (fun i hi => by simp only [tgts, List.mem_singleton] at hi; subst hi; exact .inl rfl) ?_ ?_ ?_ (fun i hi => by cases hi)) ?_
    · (repeat' first | exact TLg.nil | refine TLg.cons (GV.imm rfl) ?_ | refine TLg.cons (GV.bp rfl rfl) ?_ | refine TLg.cons (GV.rp rfl rfl ?_) ?_)
      all_goals first | rfl | exact hz
    · refine .old rfl rfl (GB.one (.cons (.rs rfl rfl rfl rfl) .nil) (fun e => by cases e)) (.old rfl rfl (GB.one (GVs.imm rfl) (fun _ => rfl)) (.old rfl rfl (GB.row (Nat.le_refl _) (fun j hj => ?_) (fun e => by cases e)) (.old rfl rfl (GB.row ?_ (fun j hj => ?_) (fun e => by cases e)) .nil)))
      · refine GVs.upd (fun e => ?_) (fun e => ?_)
        · rw [hz] at e; subst e
          refine .cons (.int (by rw [hz])) (.cons (.int (by rw [hz])) (.cons ?_ .nil))
          exact .cc (x' := .rs (27, 0, 0) 14 0 (fs.getD j default).blocks.length) rfl (show sel _ _ (sel _ _ _) = _ by rw [Zbg (Nat.le_refl _), Zdn]) (.rs rfl rfl rfl (by rw [hbs]))
        · rw [hz] at e
          refine .cons (.imm rfl) (.cons (.imm rfl) (.cons ?_ .nil))
          by_cases hji : j < i
          · exact .cc (show sel _ _ _ = _ from Za8 hji) (show sel _ _ (sel _ _ _) = _ from Za8 hji) (.rs (b := blkR j (fs.getD j default).blocks (fs.getD j default).blocks.length (fun _ => .any)) (Zbj hji) rfl rfl rfl)
          · exact .cc (show sel _ _ _ = _ from Zbg (by omega)) (show sel _ _ (sel _ _ _) = _ by rw [Zbg (by omega), Zez e]) (.imm rfl)
      · rw [hbs]; exact Nat.le_refl _
      · subst hbs
        exact Zex (.cc rfl (show sel _ _ _ = _ from Zbg (Nat.zero_le _)) (.imm rfl))
    · intro j b e
      rcases Zce e with ⟨p, rfl, hp, rfl⟩ | ⟨p, q, rfl, hp, rfl⟩
      · exact HOk.mk rfl (b0 := blkR p (fs.getD p default).blocks (fs.getD p default).blocks.length (fun _ => .any)) (Zbj hp) (Zdk (fun q hq => .cc (Za8 hq) (Za8 hq) (.rs (b := insR ((fs.getD p default).blocks.getD q default).ins) (Zbf (.inl ⟨hp, hq⟩)) rfl rfl rfl)))
      · exact HOk.mk rfl (b0 := insR ((fs.getD p default).blocks.getD q default).ins) (Zbf hp) (Zd4 _)
    ((repeat' ((fail_if_success (show AWp _ _ _ (Code.region 8 _ _) _ _)); first | (refine Zab tok (by rfl) ?_; conv => whnf) | (refine @And.intro (Zaa _ _ _ _) _ ?_ ?_; rotate_left; (conv => whnf); rotate_right))); all_goals (try ((guard_target = Zaa _ _ _ _); refine Zae ?_; (all_goals (try simp only [Zaa, kzz, kz11, kz12, maxL, Zac] at *)); all_goals omega)))
    refine fAV (y := .rs (27, 8, 0) 14 0 bs.length) (show sel (Nat.blt i i) _ (sel (Nat.beq i i) _ _) = _ by rw [Zbg (Nat.le_refl _), Zdn]) ?_
    conv => whnf
    (repeat' ((fail_if_success (show AWp _ _ _ (Code.region 8 _ _) _ _)); refine Zai ?_))
    have hbl := (hl1 i hlt).1
    have hbl2 := (hl1 i hlt).2
    rw [hbs] at hbl hbl2
    clear hl1
    refine Zau (fun k : Nat => mkF [(1, .bp (1, 0, 0) 0), (2, .bp (2, 0, 0) 0), (14, iv fs.length), (15, iv i), (4, .rp (10, 0, 0) 3 i 0), (34, iv bs.length), (35, iv k)] [((1, 0, 0), .row false 1 1 (fun _ => [.rs (10, 0, 0) 3 0 fs.length])), ((2, 0, 0), Zal [.nsl]), ((10, 0, 0), funR fs i (fun j => sel (Nat.beq j i) (.rs (27, 8, 0) 14 0 bs.length) (Zbt (fs.getD j default).blocks))), ((27, 8, 0), blkR i bs k (fun q => inss (bs.getD q default).ins))] (treeF fs i k))
      (fun k => k ≤ bs.length) (fun k => bs.length - k) 0 (Nat.zero_le _) ?_ ?_
    · refine Weak.fam [] rfl (fun i hi => by cases hi) ?_ ?_ ?_ (fun i hi => by cases hi)
      · (repeat' first | exact TLg.nil | refine TLg.cons (GV.imm rfl) ?_ | refine TLg.cons (GV.bp rfl rfl) ?_)
        all_goals rfl
      · refine .old rfl rfl (GB.one (.cons (.rs rfl rfl rfl rfl) .nil) (fun e => by cases e)) (.old rfl rfl (GB.one (GVs.imm rfl) (fun _ => rfl)) (.old rfl rfl (GB_fun (fun j hj => keep_fun (fun h => Zbj h) rfl rfl rfl rfl)) (.old rfl rfl (Zdk (fun q hq => .cc (Zbg (Nat.zero_le _)) (Zbg (Nat.zero_le _)) (.imm rfl))) .nil)))
      · intro j b e
        rcases Zce e with ⟨p, rfl, hp, rfl⟩ | ⟨p, q, rfl, hp, rfl⟩
        · exact HOk.mk rfl (b0 := blkR p (fs.getD p default).blocks (fs.getD p default).blocks.length (fun _ => .any)) (Zbj hp) (Zdk (fun q hq => .cc (Za8 hq) (Za8 hq) (.rs (b := insR ((fs.getD p default).blocks.getD q default).ins) (Zbf (.inl ⟨hp, hq⟩)) rfl rfl rfl)))
        · exact HOk.mk rfl (b0 := insR ((fs.getD p default).blocks.getD q default).ins) (Zbf hp) (Zd4 _)
    intro k hk
    ((repeat' ((fail_if_success (show AWp _ _ _ (Code.region 11 _ _) _ _)); first | refine Zad ?_ | (refine Zab tok (by rfl) ?_; conv => whnf) | refine Zai ?_ | (refine Zag ?_; conv => whnf) | (refine Zav ?_; conv => whnf) | refine Zaf rfl (fun hb => ?_) (fun hb => ?_) | (refine @And.intro (Zaa _ _ _ _) _ ?_ ?_; rotate_left; (conv => whnf); rotate_right))); all_goals (try ((guard_target = Zaa _ _ _ _); refine Zae ?_; (all_goals (try simp only [Zaa, kzz, kz11, kz12, maxL, Zac] at *)); all_goals omega)))
    · have hkl : k < bs.length := by simp only [decide_eq_true_eq] at hb; omega
      clear hb
      have hzk : 0 + (k : Int).toNat = k := by simp
      have hbk := hbl2 k hkl
      refine fAV (y := .rs (27, 8, 0) 14 0 bs.length) (show sel (Nat.blt i i) _ (sel (Nat.beq i i) _ _) = _ by rw [Zbg (Nat.le_refl _), Zdn]) ?_
      conv => whnf
      ((repeat' ((fail_if_success (show AWp _ _ _ (Code.region 11 _ _) _ _)); first | refine Zad ?_ | (refine @And.intro (Zaa _ _ _ _) _ ?_ ?_; rotate_left; (conv => whnf); rotate_right))); all_goals (try ((guard_target = Zaa _ _ _ _); refine Zae ?_; (all_goals (try simp only [Zaa, kzz, kz11, kz12, maxL, Zac] at *)); all_goals omega)))
      refine Zay (Weak.fam (tl := [(1, .bp (1, 0, 0) 0), (2, .bp (2, 0, 0) 0), (14, iv fs.length), (15, iv i), (4, .rp (10, 0, 0) 3 i 0), (34, iv bs.length), (35, iv k), (6, .rp (27, 8, 0) 14 k 0)]) (hl := [((1, 0, 0), .row false 1 1 (fun _ => [.rs (10, 0, 0) 3 0 fs.length])), ((2, 0, 0), Zal [.nsl]), ((10, 0, 0), funR fs i (fun j => sel (Nat.beq j i) (.rs (27, 8, 0) 14 0 bs.length) (Zbt (fs.getD j default).blocks))), ((27, 8, 0), blkR i bs k (fun q => inss (bs.getD q default).ins))]) (F := treeF fs i k) [] rfl (fun i hi => by cases hi) ?_ ?_ ?_ (fun i hi => by cases hi)) ?_
      · (repeat' first | exact TLg.nil | refine TLg.cons (GV.imm rfl) ?_ | refine TLg.cons (GV.bp rfl rfl) ?_ | refine TLg.cons (GV.rp rfl rfl ?_) ?_)
        all_goals first | rfl | exact hzk
      · refine .old rfl rfl (GB.one (.cons (.rs rfl rfl rfl rfl) .nil) (fun e => by cases e)) (.old rfl rfl (GB.one (GVs.imm rfl) (fun _ => rfl)) (.old rfl rfl (GB_fun (fun j hj => keep_fun (fun h => Zbj h) rfl rfl rfl rfl)) (.old rfl rfl (Zdk (fun q hq => ?_)) .nil)))
        by_cases hqk : q < k
        · exact .cc (Za8 hqk) (Za8 hqk) (.rs (b := insR ((fs.getD i default).blocks.getD q default).ins) (Zbf (.inr ⟨rfl, hqk⟩)) rfl rfl rfl)
        · exact .cc (Zbg (by omega)) (Zbg (by omega)) (.imm rfl)
      · intro j b e
        rcases Zce e with ⟨p, rfl, hp, rfl⟩ | ⟨p, q, rfl, hp, rfl⟩
        · exact HOk.mk rfl (b0 := blkR p (fs.getD p default).blocks (fs.getD p default).blocks.length (fun _ => .any)) (Zbj hp) (Zdk (fun q hq => .cc (Za8 hq) (Za8 hq) (.rs (b := insR ((fs.getD p default).blocks.getD q default).ins) (Zbf (.inl ⟨hp, hq⟩)) rfl rfl rfl)))
        · exact HOk.mk rfl (b0 := insR ((fs.getD p default).blocks.getD q default).ins) (Zbf hp) (Zd4 _)
      conv => whnf
      refine (Za0 tok mix (by rfl) ?_)
      conv => whnf
      refine @And.intro (Zaa _ _ _ _) _ ?_ ?_
      · ((guard_target = Zaa _ _ _ _); refine Zae ?_; (all_goals (try simp only [Zaa, kzz, kz11, kz12, maxL, Zac] at *)); all_goals omega)
      conv => whnf
      refine .inl ⟨_, _, _, uG (QC.fo (rd := []) (c_CloneU16s (bs.getD k default).pad.catch_) (Ress.imms rfl) (.inl rfl) rfl), ?_⟩
      conv => whnf
      refine @And.intro (Zaa _ _ _ _) _ ?_ ?_
      · ((guard_target = Zaa _ _ _ _); refine Zae ?_; (all_goals (try simp only [Zaa, kzz, kz11, kz12, maxL, Zac] at *)); all_goals omega)
      conv => whnf
      refine fAV (y := inss (bs.getD k default).ins) (show sel (Nat.blt k k) _ _ = _ from Zbg (Nat.le_refl _)) ?_
      conv => whnf
      refine .inl ⟨_, _, _, uG (QC.fo (rd := []) (c_CloneIns (bs.getD k default).ins) (Ress.imms rfl) (.inl rfl) rfl), ?_⟩
      conv => whnf
      refine @And.intro (Zaa _ _ _ _) _ ?_ ?_
      · ((guard_target = Zaa _ _ _ _); refine Zae ?_; (all_goals (try simp only [Zaa, kzz, kz11, kz12, maxL, Zac] at *)); all_goals omega)
      conv => whnf
      refine .inl ⟨_, _, _, uG (QC.fo (rd := []) (c_CloneInts (bs.getD k default).fin.args) (Ress.imms rfl) (.inl rfl) rfl), ?_⟩
      conv => whnf
      refine @And.intro (Zaa _ _ _ _) _ ?_ ?_
      · ((guard_target = Zaa _ _ _ _); refine Zae ?_; (all_goals (try simp only [Zaa, kzz, kz11, kz12, maxL, Zac] at *)); all_goals omega)
      conv => whnf
      refine @And.intro (Zaa _ _ _ _) _ ?_ ?_
      · ((guard_target = Zaa _ _ _ _); refine Zae ?_; (all_goals (try simp only [Zaa, kzz, kz11, kz12, maxL, Zac] at *)); all_goals omega)
      conv => whnf
      refine @And.intro (Zaa _ _ _ _) _ ?_ ?_
      · ((guard_target = Zaa _ _ _ _); refine Zae ?_; (all_goals (try simp only [Zaa, kzz, kz11, kz12, maxL, Zac] at *)); all_goals omega)
      conv => whnf
      refine Zay (Weak.fam (tl := [(1, .bp (1, 0, 0) 0), (2, .bp (2, 0, 0) 0), (14, iv fs.length), (15, iv i), (4, .rp (10, 0, 0) 3 i 0), (34, iv bs.length), (35, iv k), (6, .rp (27, 8, 0) 14 k 0)]) (hl := [((1, 0, 0), .row false 1 1 (fun _ => [.rs (10, 0, 0) 3 0 fs.length])), ((2, 0, 0), Zal [.nsl]), ((10, 0, 0), funR fs i (fun j => sel (Nat.beq j i) (.rs (27, 8, 0) 14 0 bs.length) (Zbt (fs.getD j default).blocks))), ((27, 8, 0), blkR i bs k (fun q => sel (Nat.beq q k) (.rs (57, 0, 0) 7 0 (bs.getD k default).ins.length) (inss (bs.getD q default).ins))), ((57, 0, 0), insR (bs.getD k default).ins)]) (F := treeF fs i k) [] rfl (fun i hi => by cases hi) ?_ ?_ ?_ (fun i hi => by cases hi)) ?_
      · (repeat' first | exact TLg.nil | refine TLg.cons (GV.imm rfl) ?_ | refine TLg.cons (GV.bp rfl rfl) ?_)
      · refine .old rfl rfl (GB.one (.cons (.rs rfl rfl rfl rfl) .nil) (fun e => by cases e)) (.old rfl rfl (GB.one (GVs.imm rfl) (fun _ => rfl)) (.old rfl rfl (GB_fun (fun j hj => keep_fun (fun h => Zbj h) rfl rfl rfl rfl)) (.old rfl rfl (GB.row (Nat.le_refl _) (fun q hq => ?_) (fun e => by cases e)) (.old rfl rfl (Zd4 _) .nil))))
        by_cases hqk : q = k
        · subst hqk
          repeat rw [updR_self]
          refine .cons (.imm rfl) (.cons (.imm rfl) (.cons (.frz (hd_of rfl (tree_hd0 rfl)) rfl (Nat.le_of_eq (Nat.zero_add _)) rfl (fun x hx => GVs.eqI rfl (by rw [Nat.zero_add])) (fun _ _ => rfl)) (.cons (.imm rfl) (.cons (.imm rfl) (.cons (.cc (x' := .rs (57, 0, 0) 7 0 (bs.getD q default).ins.length) rfl (show sel (Nat.blt q q) _ (sel (Nat.beq q q) _ _) = _ by rw [Zbg (Nat.le_refl _), Zdn]) (.rs rfl rfl rfl rfl)) (.cons (.imm rfl) (.cons (.imm rfl) (.cons (.imm rfl) (.cons (.imm rfl) (.cons (.frz (hd_of rfl (tree_hd0 rfl)) rfl (Nat.le_of_eq (Nat.zero_add _)) rfl (fun x hx => GVs.eqI rfl (by rw [Nat.zero_add])) (fun _ _ => rfl)) (.cons (.imm rfl) (.cons (.imm rfl) (.cons (.imm rfl) .nil)))))))))))))
        · refine GVs.upd (fun e => absurd e hqk) (fun _ => GVs.upd (fun e => absurd e hqk) (fun _ => GVs.upd (fun e => absurd e hqk) (fun _ => Zex ?_)))
          by_cases hlt2 : q < k
          · exact .cc (Za8 hlt2) (Za8 hlt2) (.rs (b := insR ((fs.getD i default).blocks.getD q default).ins) (Zbf (.inr ⟨rfl, hlt2⟩)) rfl rfl rfl)
          · exact .cc (Zbg (by omega)) (show sel _ _ (sel (Nat.beq q k) _ _) = _ by rw [Zbg (by omega), Zez hqk]) (.imm rfl)
      · intro j b e
        rcases Zce e with ⟨p, rfl, hp, rfl⟩ | ⟨p, q, rfl, hp, rfl⟩
        · exact HOk.mk rfl (b0 := blkR p (fs.getD p default).blocks (fs.getD p default).blocks.length (fun _ => .any)) (Zbj hp) (Zdk (fun q hq => .cc (Za8 hq) (Za8 hq) (.rs (b := insR ((fs.getD p default).blocks.getD q default).ins) (Zbf (.inl ⟨hp, hq⟩)) rfl rfl rfl)))
        · exact HOk.mk rfl (b0 := insR ((fs.getD p default).blocks.getD q default).ins) (Zbf hp) (Zd4 _)
      refine Zad ?_
      refine (Zab tok (by rfl) ?_)
      conv => whnf
      refine @And.intro (Zaa _ _ _ _) _ ?_ ?_
      · ((guard_target = Zaa _ _ _ _); refine Zae ?_; (all_goals (try simp only [Zaa, kzz, kz11, kz12, maxL, Zac] at *)); all_goals omega)
      conv => whnf
      refine fAV (y := .rs (57, 0, 0) 7 0 (bs.getD k default).ins.length) (show sel (Nat.blt k k) _ (sel (Nat.beq k k) _ _) = _ by rw [Zbg (Nat.le_refl _), Zdn]) ?_
      conv => whnf
      (repeat' refine Zai ?_)
      refine Zau (fun j : Nat => mkF [(1, .bp (1, 0, 0) 0), (2, .bp (2, 0, 0) 0), (14, iv fs.length), (15, iv i), (4, .rp (10, 0, 0) 3 i 0), (34, iv bs.length), (35, iv k), (6, .rp (27, 8, 0) 14 k 0), (76, iv (bs.getD k default).ins.length), (77, iv j)] [((1, 0, 0), .row false 1 1 (fun _ => [.rs (10, 0, 0) 3 0 fs.length])), ((2, 0, 0), Zal [.nsl]), ((10, 0, 0), funR fs i (fun j => sel (Nat.beq j i) (.rs (27, 8, 0) 14 0 bs.length) (Zbt (fs.getD j default).blocks))), ((27, 8, 0), blkR i bs k (fun q => sel (Nat.beq q k) (.rs (57, 0, 0) 7 0 (bs.getD k default).ins.length) (inss (bs.getD q default).ins))), ((57, 0, 0), insR (bs.getD k default).ins)] (treeF fs i k)) (fun j => j ≤ (bs.getD k default).ins.length) (fun j => (bs.getD k default).ins.length - j) 0 (Nat.zero_le _) ?_ ?_
      · refine Weak.fam [] rfl (fun i hi => by cases hi) ?_ ?_ ?_ (fun i hi => by cases hi)
        · (repeat' first | exact TLg.nil | refine TLg.cons (GV.imm rfl) ?_ | refine TLg.cons (GV.bp rfl rfl) ?_)
        · exact .old rfl rfl (GB.one (.cons (.rs rfl rfl rfl rfl) .nil) (fun e => by cases e)) (.old rfl rfl (GB.one (GVs.imm rfl) (fun _ => rfl)) (.old rfl rfl (GB_fun (fun j hj => keep_fun (fun h => Zbj h) rfl rfl rfl rfl)) (.old rfl rfl (Zdk (fun q hq => keep_blk (fun h => Zbf (.inr ⟨rfl, h⟩)) rfl rfl rfl)) (.old rfl rfl (Zd4 _) .nil))))
        · intro j b e
          rcases Zce e with ⟨p, rfl, hp, rfl⟩ | ⟨p, q, rfl, hp, rfl⟩
          · exact HOk.mk rfl (b0 := blkR p (fs.getD p default).blocks (fs.getD p default).blocks.length (fun _ => .any)) (Zbj hp) (Zdk (fun q hq => .cc (Za8 hq) (Za8 hq) (.rs (b := insR ((fs.getD p default).blocks.getD q default).ins) (Zbf (.inl ⟨hp, hq⟩)) rfl rfl rfl)))
          · exact HOk.mk rfl (b0 := insR ((fs.getD p default).blocks.getD q default).ins) (Zbf hp) (Zd4 _)
      intro j hj
      (repeat' ((fail_if_success (show AWp _ _ _ (Code.region 15 _ _) _ _)); first | refine Zad ?_ | (refine Zab tok (by rfl) ?_; conv => whnf) | refine Zai ?_ | (refine Zag ?_; conv => whnf) | (refine Zav ?_; conv => whnf) | refine Zaf rfl (fun hb => ?_) (fun hb => ?_)))
      · have hjl : j < (bs.getD k default).ins.length := by simp only [decide_eq_true_eq] at hb; omega
        clear hb
        have hzj : 0 + (j : Int).toNat = j := by simp
        refine (Za0 tok mix (by rfl) ?_)
        conv => whnf
        refine @And.intro (Zaa _ _ _ _) _ ?_ ?_
        · ((guard_target = Zaa _ _ _ _); refine Zae ?_; (all_goals (try simp only [Zaa, kzz, kz11, kz12, maxL, Zac] at *)); all_goals omega)
        conv => whnf
        refine fAV (y := .rs (57, 0, 0) 7 0 (bs.getD k default).ins.length) (show sel (Nat.blt k k) _ (sel (Nat.beq k k) _ _) = _ by rw [Zbg (Nat.le_refl _), Zdn]) ?_
        conv => whnf
        refine @And.intro (Zaa _ _ _ _) _ ?_ ?_
        · ((guard_target = Zaa _ _ _ _); refine Zae ?_; (all_goals (try simp only [Zaa, kzz, kz11, kz12, maxL, Zac] at *)); all_goals omega)
        conv => whnf
        refine fAV (y := .rs (57, 0, 0) 7 0 (bs.getD k default).ins.length) (show sel (Nat.blt k k) _ (sel (Nat.beq k k) _ _) = _ by rw [Zbg (Nat.le_refl _), Zdn]) ?_
        conv => whnf
        refine @And.intro (Zaa _ _ _ _) _ ?_ ?_
        · ((guard_target = Zaa _ _ _ _); refine Zae ?_; (all_goals (try simp only [Zaa, kzz, kz11, kz12, maxL, Zac] at *)); all_goals omega)
        conv => whnf
        refine @And.intro (Zaa _ _ _ _) _ ?_ ?_
        · ((guard_target = Zaa _ _ _ _); refine Zae ?_; (all_goals (try simp only [Zaa, kzz, kz11, kz12, maxL, Zac] at *)); all_goals omega)
        conv => whnf
        refine .inl ⟨_, _, _, uG (QC.fo (rd := []) (c_CloneInts ((bs.getD k default).ins.getD (0 + (j : Int).toNat) default).args) (Ress.imms rfl) (.inl rfl) rfl), ?_⟩
        conv => whnf
        ((repeat' first | (refine Zab tok (by rfl) ?_; conv => whnf) | (refine @And.intro (Zaa _ _ _ _) _ ?_ ?_; rotate_left; (conv => whnf); rotate_right)); all_goals (try ((guard_target = Zaa _ _ _ _); refine Zae ?_; (all_goals (try simp only [Zaa, kzz, kz11, kz12, maxL, Zac] at *)); all_goals omega)))
        refine ⟨j + 1, by omega, by omega, ?_⟩
        refine Weak.fam [] rfl (fun i hi => by cases hi) ?_ ?_ ?_ (fun i hi => by cases hi)
        · (repeat' first | exact TLg.nil | refine TLg.cons (GV.imm rfl) ?_ | refine TLg.cons (GV.bp rfl rfl) ?_ | refine TLg.cons (GV.int ?_) ?_)
          all_goals first | rfl | (simp (disch := omega) only [Zak]; omega) | omega
        · refine .old rfl rfl (GB.one (.cons (.rs rfl rfl rfl rfl) .nil) (fun e => by cases e)) (.old rfl rfl (GB.one (GVs.imm rfl) (fun _ => rfl)) (.old rfl rfl (GB_fun (fun j hj => keep_fun (fun h => Zbj h) rfl rfl rfl rfl)) (.old rfl rfl (Zdk (fun q hq => keep_blk (fun h => Zbf (.inr ⟨rfl, h⟩)) rfl rfl rfl)) (.old rfl rfl (GB.row (Nat.le_refl _) (fun q hq => GVs.upd (fun e => ?_) (fun _ => GVs.imm rfl)) (fun _ _ _ => rfl)) .nil))))
          rw [hzj] at e; subst e
          rw [hzj]
          exact .cons (.imm rfl) (.cons (.imm rfl) (.cons (.imm rfl) (.cons (.imm rfl) (.cons (.imm rfl) (.cons (.imm rfl) (.cons (.frz (hd_of rfl (tree_hd0 rfl)) rfl (Nat.le_of_eq (Nat.zero_add _)) rfl (fun x hx => GVs.eqI rfl (by rw [Nat.zero_add])) (fun _ _ => rfl)) .nil))))))
        · intro j b e
          rcases Zce e with ⟨p, rfl, hp, rfl⟩ | ⟨p, q, rfl, hp, rfl⟩
          · exact HOk.mk rfl (b0 := blkR p (fs.getD p default).blocks (fs.getD p default).blocks.length (fun _ => .any)) (Zbj hp) (Zdk (fun q hq => .cc (Za8 hq) (Za8 hq) (.rs (b := insR ((fs.getD p default).blocks.getD q default).ins) (Zbf (.inl ⟨hp, hq⟩)) rfl rfl rfl)))
          · exact HOk.mk rfl (b0 := insR ((fs.getD p default).blocks.getD q default).ins) (Zbf hp) (Zd4 _)
      · have hjl : j = (bs.getD k default).ins.length := by simp only [decide_eq_false_iff_not] at hb; omega
        clear hb
        skip
        refine ⟨k + 1, hkl, by omega, ?_⟩
        refine Weak.fam [((1001, i, k), some (57, 0, 0))] rfl (fun i hi => by simp only [tgts, List.mem_singleton] at hi; subst hi; exact .inl rfl) ?_ ?_ ?_ (fun i hi => by cases hi)
        · (repeat' first | exact TLg.nil | refine TLg.cons (GV.imm rfl) ?_ | refine TLg.cons (GV.bp rfl rfl) ?_ | refine TLg.cons (GV.int ?_) ?_)
          all_goals first | rfl | (simp (disch := omega) only [Zak]; omega) | omega
        · refine .old rfl rfl (GB.one (.cons (.rs rfl rfl rfl rfl) .nil) (fun e => by cases e)) (.old rfl rfl (GB.one (GVs.imm rfl) (fun _ => rfl)) (.old rfl rfl (GB_fun (fun j hj => keep_fun (fun h => Zbj h) rfl rfl rfl rfl)) (.old rfl rfl (Zdk (fun q hq => ?_)) .nil)))
          by_cases h1 : q < k
          · exact .cc (Za8 h1) (Za8 (by omega)) (.rs (b := insR ((fs.getD i default).blocks.getD q default).ins) (Zbf (.inr ⟨rfl, by omega⟩)) (Zb3 (fun e => by cases e; omega)) rfl rfl)
          · by_cases h2 : q = k
            · subst h2
              exact .cc (show sel _ _ (sel (Nat.beq q q) _ _) = _ by rw [Zbg (Nat.le_refl _), Zdn]) (Za8 (by omega)) (.rs (b := insR ((fs.getD i default).blocks.getD q default).ins) (Zbf (.inr ⟨rfl, by omega⟩)) Zfs rfl rfl)
            · exact .cc (show sel _ _ (sel (Nat.beq q k) _ _) = _ by rw [Zbg (by omega), Zez h2]) (Zbg (by omega)) (.imm rfl)
        · intro j b e
          rcases Zce e with ⟨p, rfl, hp, rfl⟩ | ⟨p, q, rfl, hp, rfl⟩
          · exact HOk.mk rfl (b0 := blkR p (fs.getD p default).blocks (fs.getD p default).blocks.length (fun _ => .any)) (Zbj hp) (Zdk (fun q hq => .cc (Za8 hq) (Za8 hq) (.rs (b := insR ((fs.getD p default).blocks.getD q default).ins) (Zbf (.inl ⟨hp, hq⟩)) (Zb3 (fun e => by cases e; omega)) rfl rfl)))
          · by_cases h2 : p = i ∧ q = k
            · obtain ⟨rfl, rfl⟩ := h2
              exact HOk.mk Zfs (b0 := insR (bs.getD q default).ins) rfl (by rw [← hbs]; exact Zd4 _)
            · exact HOk.mk (Zb3 (fun e => h2 (by cases e; exact ⟨rfl, rfl⟩))) (b0 := insR ((fs.getD p default).blocks.getD q default).ins) (Zbf (by omega)) (Zd4 _)
    · have hkl : k = bs.length := by simp only [decide_eq_false_iff_not] at hb; omega
      clear hb
      skip
      refine ⟨i + 1, hlt, by omega, ?_⟩
      subst hkl
      refine Weak.fam [((1000, i, 0), some (27, 8, 0))] rfl (fun i hi => by simp only [tgts, List.mem_singleton] at hi; subst hi; exact .inl rfl) ?_ ?_ ?_ (fun i hi => by cases hi)
      · (repeat' first | exact TLg.nil | refine TLg.cons (GV.imm rfl) ?_ | refine TLg.cons (GV.bp rfl rfl) ?_ | refine TLg.cons (GV.int ?_) ?_)
        all_goals first | rfl | (simp (disch := omega) only [Zak]; omega) | omega
      · refine .old rfl rfl (GB.one (.cons (.rs rfl rfl rfl rfl) .nil) (fun e => by cases e)) (.old rfl rfl (GB.one (GVs.imm rfl) (fun _ => rfl)) (.old rfl rfl (GB_fun (fun j hj => ?_)) .nil))
        by_cases h1 : j < i
        · exact .cc (Za8 h1) (Za8 (by omega)) (.rs (b := blkR j (fs.getD j default).blocks (fs.getD j default).blocks.length (fun _ => .any)) (Zbj (by omega)) (Zb3 (fun e => by cases e; omega)) rfl rfl)
        · by_cases h2 : j = i
          · subst h2
            exact .cc (show sel _ _ (sel (Nat.beq j j) _ _) = _ by rw [Zbg (Nat.le_refl _), Zdn]) (Za8 (by omega)) (.rs (b := blkR j (fs.getD j default).blocks (fs.getD j default).blocks.length (fun _ => .any)) (Zbj (by omega)) Zfs rfl (by rw [hbs]))
          · exact .cc (show sel _ _ (sel (Nat.beq j i) _ _) = _ by rw [Zbg (by omega), Zez h2]) (Zbg (by omega)) (.imm rfl)
      · intro j b e
        rcases Zce e with ⟨p, rfl, hp, rfl⟩ | ⟨p, q, rfl, hp, rfl⟩
        · by_cases h2 : p = i
          · subst h2
            refine HOk.mk Zfs (b0 := blkR p bs bs.length (fun q => inss (bs.getD q default).ins)) rfl ?_
            rw [hbs]
            exact Zdk (fun q hq => .cc (Za8 hq) (Za8 hq) (.rs (b := insR ((fs.getD p default).blocks.getD q default).ins) (Zbf (.inl ⟨hp, by rw [hbs]; exact hq⟩)) rfl rfl rfl))
          · exact HOk.mk (Zb3 (fun e => h2 (by cases e; rfl))) (b0 := blkR p (fs.getD p default).blocks (fs.getD p default).blocks.length (fun _ => .any)) (Zbj (by omega)) (Zdk (fun q hq => .cc (Za8 hq) (Za8 hq) (.rs (b := insR ((fs.getD p default).blocks.getD q default).ins) (Zbf (.inl ⟨hp, hq⟩)) rfl rfl rfl)))
        · refine HOk.mk rfl (b0 := insR ((fs.getD p default).blocks.getD q default).ins) (Zbf ?_) (Zd4 _)
          by_cases h2 : p = i
          · subst h2; rw [hbs] at hp; omega
          · omega
  · have hil : i = fs.length := by simp only [decide_eq_false_iff_not] at hb; omega
    clear hb
    subst hil
    refine ⟨_, srcL [((900, 0, 0), some (10, 0, 0))], rfl, srcL_inj rfl (fun i hi => by simp only [tgts, List.mem_singleton] at hi; subst hi; exact .inl rfl), ?_, ?_⟩
    · intro j b e
      rcases orH_some e with e | ⟨_, e⟩
      · simp only [Zbz] at e
        cases e2 : idEq (900, 0, 0) j with
        | false => rw [e2] at e; cases e
        | true =>
          have := Zbh.1 e2; subst this
          rw [e2] at e; cases e
          exact HOk.mk rfl (b0 := funR fs fs.length (fun j => Zbt (fs.getD j default).blocks)) rfl (GB_fun (fun j hj => .cc (Za8 hj) (Za8 hj) (.rs (b := blkR j (fs.getD j default).blocks (fs.getD j default).blocks.length (fun _ => .any)) (Zbj hj) rfl rfl rfl)))
      · rcases Zce e with ⟨p, rfl, hp, rfl⟩ | ⟨p, q, rfl, hp, rfl⟩
        · exact HOk.mk rfl (b0 := blkR p (fs.getD p default).blocks (fs.getD p default).blocks.length (fun _ => .any)) (Zbj hp) (Zdk (fun q hq => .cc (Za8 hq) (Za8 hq) (.rs (b := insR ((fs.getD p default).blocks.getD q default).ins) (Zbf (.inl ⟨hp, hq⟩)) rfl rfl rfl)))
        · exact HOk.mk rfl (b0 := insR ((fs.getD p default).blocks.getD q default).ins) (Zbf hp) (Zd4 _)
    · exact .agg (.cons (.rs rfl rfl rfl rfl) .nil)
end Go.Proofs.YtoelbgjpmpoolaaGreat
namespace Go.Proofs.YtoelbgjpmpoolaaGreat
open Go Dv
set_option maxRecDepth 10000
set_option linter.unusedSimpArgs false
def blkR1 (l : List Zbe) : Zar := .row true 14 l.length (fun q => Za5 (l.getD q default))
def funR1 (l : List Func) (c : Nat → AV) : Zar := .row false 3 l.length (fun j => [iv (l.getD j default).params, iv (l.getD j default).regs, c j])
def blkF1 (l : List Func) (p : Nat → Bool) : Zaq := famC 1000 (fun j z => bif Nat.beq z 0 && (Nat.blt j l.length && p j) then some (blkR1 (l.getD j default).blocks) else none)
def mem1 (l : List Func) (j : Nat) : AV := .rs (1000, j, 0) 14 0 (l.getD j default).blocks.length
def modH1 (l : List Func) : Zaq := orH (Zbz [((900, 0, 0), funR1 l (mem1 l))]) (blkF1 l (fun _ => true))
theorem blkF1_some {l : List Func} {p : Nat → Bool} {j : Dv.Id} {b : Zar} (h : blkF1 l p j = some b) : ∃ i, j = (1000, i, 0) ∧ i < l.length ∧ p i = true ∧ b = blkR1 (l.getD i default).blocks := by
  obtain ⟨a, z, rfl, h3⟩ := famC_some h
  cases e : (Nat.beq z 0 && (Nat.blt a l.length && p a)) with
  | false => rw [e] at h3; cases h3
  | true =>
    rw [e] at h3
    rw [Bool.and_eq_true, Bool.and_eq_true, Nat.blt_eq] at e
    have := Nat.eq_of_beq_eq_true e.1
    subst this
    exact ⟨a, rfl, e.2.1, e.2.2, (Option.some.inj h3).symm⟩
theorem blkF1_at {l : List Func} {p : Nat → Bool} {i : Nat} (h : i < l.length) (hp : p i = true) : blkF1 l p (1000, i, 0) = some (blkR1 (l.getD i default).blocks) := by
  show (bif (Nat.beq 0 0 && (Nat.blt i l.length && p i)) then _ else none) = _
  have : (Nat.beq 0 0 && (Nat.blt i l.length && p i)) = true := by
    rw [Bool.and_eq_true, Bool.and_eq_true, Nat.blt_eq]; exact ⟨rfl, h, hp⟩
  rw [this]; rfl
theorem copyH_sub (fs : List Func) (j : Dv.Id) (b : Zar) (e : modH1 fs j = some b) : (j = (900, 0, 0) ∧ b = funR1 fs (mem1 fs)) ∨ ∃ i, j = (1000, i, 0) ∧ i < fs.length ∧ b = blkR1 (fs.getD i default).blocks := by
  rcases orH_some e with e | ⟨_, e⟩
  · simp only [Zbz] at e
    cases e2 : idEq (900, 0, 0) j with
    | false => rw [e2] at e; cases e
    | true => have := Zbh.1 e2; subst this; rw [e2] at e; cases e; exact .inl ⟨rfl, rfl⟩
  · obtain ⟨i, rfl, h1, _, h2⟩ := blkF1_some e
    exact .inr ⟨i, rfl, h1, h2⟩
theorem modH1_at {l : List Func} {i : Nat} (h : i < l.length) : modH1 l (1000, i, 0) = some (blkR1 (l.getD i default).blocks) := (show blkF1 l (fun _ => true) (1000, i, 0) = _ from blkF1_at h rfl)
theorem c_Copy1 (fs : List Func) : HF Tryz.prog 49 [.agg (Zan ⟨fs⟩)] (.agg [.rs (900, 0, 0) 3 0 fs.length]) (modH1 fs) := by
  refine (c_Copy fs).weak (fun j => some j) (fun j j' i _ _ h1 h2 => some_inj j j' i h1 h2) (fun j b e => ?_) (.agg (.cons (.rs (b := funR1 fs (mem1 fs)) rfl rfl rfl rfl) .nil))
  rcases copyH_sub fs j b e with ⟨rfl, rfl⟩ | ⟨i, rfl, hi, rfl⟩
  · refine HOk.mk rfl (b0 := funR fs fs.length (fun _ => .any)) rfl (GB.row (Nat.le_refl _) (fun j hj => .cons (.imm rfl) (.cons (.imm rfl) (.cons ?_ .nil))) (fun e => by cases e))
    exact .cc (Za8 hj) rfl (.rs (modH1_at hj) rfl rfl rfl)
  · refine HOk.mk rfl (b0 := blkR i (fs.getD i default).blocks (fs.getD i default).blocks.length (fun _ => .any)) (show treeF fs fs.length 0 (1000, i, 0) = _ from Zbj hi) (GB.row (Nat.le_refl _) (fun q hq => ?_) (fun _ _ _ => rfl))
    refine .cons (.imm rfl) (.cons (.imm rfl) (.cons (.imm rfl) (.cons (.imm rfl) (.cons (.imm rfl) (.cons ?_ (GVs.imm rfl))))))
    refine .cc (Za8 hq) rfl (.frz (k := ((fs.getD i default).blocks.getD q default).ins.length) (f := fun j => Zbc (((fs.getD i default).blocks.getD q default).ins.getD j default)) (imm := true) (fun j hj e => ?_) (show treeF fs fs.length 0 (1001, i, q) = _ from Zbf (.inl ⟨hi, hq⟩)) (Nat.le_of_eq (Nat.zero_add _)) rfl (fun x hx => GVs.eqI rfl (by rw [Nat.zero_add])) (fun _ _ => rfl))
    cases e
    cases hj
theorem rel_mod1 (l : List Func) : Rel (modH1 l) (.agg [.rs (900, 0, 0) 3 0 l.length]) (.agg (Zan ⟨l⟩)) := by
  refine Rel.agg (Rels.cons (Rel.rs (imm := false) (k := l.length) (f := fun j => [iv (l.getD j default).params, iv (l.getD j default).regs, mem1 l j]) rfl (Nat.le_of_eq (Nat.zero_add _)) (fun i hi => ?_)) Rels.nil)
  rw [Nat.zero_add]
  refine Rels.cons (Rel.imm rfl) (Rels.cons (Rel.imm rfl) (Rels.cons (Rel.rs (imm := true) (k := (l.getD i default).blocks.length) (f := fun q => Za5 ((l.getD i default).blocks.getD q default)) (modH1_at hi) (Nat.le_of_eq (Nat.zero_add _)) (fun q hq => ?_)) Rels.nil))
  rw [Nat.zero_add]
  exact Rels.imm rfl
theorem c_CopyF (m : Zam) : FC Tryz.prog 49 [.agg (Zan m)] (.agg (Zan m)) := (c_Copy1 m.funcs).fc (rel_mod1 m.funcs)
end Go.Proofs.YtoelbgjpmpoolaaGreat
namespace Go.Proofs.YtoelbgjpmpoolaaGreat
open Go Dv
set_option maxRecDepth 10000
set_option linter.unusedSimpArgs false
section
variable (B : Zbe → Zbe)
def mapB (l : List Zbe) (k : Nat) : List Zbe := (List.range l.length).map fun q => if q < k then B (l.getD q default) else l.getD q default
def Zbm (m : Zam) : Zam := ⟨m.funcs.map fun f => { f with blocks := f.blocks.map B }⟩
end
theorem range_getD {α : Type} (d : α) (f : Nat → α) {n i : Nat} (h : i < n) : ((List.range n).map f).getD i d = f i := by
  simp [List.getD_eq_getElem?_getD, h]
theorem mapB_len {B : Zbe → Zbe} (l : List Zbe) (k : Nat) : (mapB B l k).length = l.length := by simp [mapB]
theorem Zdf {B : Zbe → Zbe} {l : List Zbe} {k q : Nat} (h : q < l.length) : (mapB B l k).getD q default = if q < k then B (l.getD q default) else l.getD q default := range_getD _ _ h
theorem mapB_all {B : Zbe → Zbe} (l : List Zbe) : mapB B l l.length = l.map B := by
  refine Zbk default (by simp [mapB]) (fun i hi => ?_)
  rw [mapB_len] at hi
  rw [Zdf hi, if_pos hi, Zbr (d := default) (l := l.map B) (by simpa using hi), Zbr _ hi]; simp
theorem GB_fun1 {src : Dv.Id → Option Dv.Id} {h h' : Zaq} {l : List Func} {c c' : Nat → AV} (hc : ∀ q, q < l.length → GV src h h' (c q) (c' q)) : GB src h h' (funR1 l c) (funR1 l c') :=
  GB.row (Nat.le_refl _) (fun q hq => .cons (.imm rfl) (.cons (.imm rfl) (.cons (hc q hq) .nil))) (fun e => by cases e)
def errM (m : Zam) : Int := if Za6 m = true then 0 else 1
def doneM (B : Zbe → Zbe) (m : Zam) : Zam := if Za6 m = true then Zbm B m else m
end Go.Proofs.YtoelbgjpmpoolaaGreat
namespace Go.Proofs.YtoelbgjpmpoolaaGreat
open Go Dv
set_option maxRecDepth 10000
set_option linter.unusedSimpArgs false
section
variable {B : Zbe → Zbe}
theorem map_getD {l : List Zbe} {i : Nat} (h : i < l.length) : (l.map B).getD i default = B (l.getD i default) := by
  rw [List.getD_eq_getElem?_getD, List.getElem?_map, List.getElem?_eq_getElem h, Zbr default h]; rfl
theorem map_out {l : List Zbe} {i : Nat} (h : ¬ i < l.length) : (l.map B).getD i default = l.getD i default := by
  rw [List.getD_eq_getElem?_getD, List.getElem?_eq_none (by simp; omega), List.getD_eq_getElem?_getD, List.getElem?_eq_none (by omega)]
theorem pass_at {m : Zam} {k : Nat} (h : k < m.funcs.length) : (Zbm B m).funcs.getD k default = { m.funcs.getD k default with blocks := (m.funcs.getD k default).blocks.map B } := by
  show (m.funcs.map _).getD k default = _
  rw [List.getD_eq_getElem?_getD, List.getElem?_map, List.getElem?_eq_getElem h, Zbr default h]; rfl
theorem pass_len (m : Zam) : (Zbm B m).funcs.length = m.funcs.length := by simp [Zbm]
theorem args_pass (m : Zam) (f : Func) (n : Int) (l : List Int) : Zeh (Zbm B m) { f with blocks := f.blocks.map B } n l = Zeh m f n l := by
  unfold Zeh
  rw [pass_len]
  cases h : inn n m.funcs.length with
  | false => rfl
  | true =>
    have := (Zac _ _).1 h
    rw [pass_at (by omega)]
theorem land_pass {l : List Zbe} (hl : ∀ b ∈ l, (B b).landing = b.landing) (i : Nat) : ((l.map B).getD i default).landing = (l.getD i default).landing := by
  by_cases h : i < l.length
  · rw [map_getD h]; exact hl _ (Zb4 _ h)
  · rw [map_out h]
theorem goal_pass {f : Func} (hl : ∀ b ∈ f.blocks, (B b).landing = b.landing) (n : Int) : goalB { f with blocks := f.blocks.map B } n = goalB f n := by
  unfold goalB
  simp only [List.length_map]
  rw [land_pass hl]
theorem blk_pass {m : Zam} {f : Func} (hl : ∀ b ∈ f.blocks, (B b).landing = b.landing) (b : Zbe) : blkB (Zbm B m) { f with blocks := f.blocks.map B } b = blkB m f b := by
  have hI : ∀ x, InsP (Zbm B m) { f with blocks := f.blocks.map B } x ↔ InsP m f x := fun x => by
    unfold InsP; rw [args_pass]
  have hE : ∀ x, EndP (Zbm B m) { f with blocks := f.blocks.map B } x ↔ EndP m f x := fun x => by
    unfold EndP; rw [args_pass, goal_pass hl, goal_pass hl]
    simp only [List.length_map]
    rw [land_pass hl]
  have hP : PadP { f with blocks := f.blocks.map B } b ↔ PadP f b := Iff.rfl
  unfold blkB
  congr 1
  · rw [decide_eq_decide, hE, hP]
  · congr 1; funext x; rw [decide_eq_decide]; exact hI x
theorem right_pass {m : Zam} (hr : Za6 m = true) (hB : ∀ f b, Zed m f = true → blkB m f b = true → (B b).landing = b.landing ∧ blkB m f (B b) = true) : Za6 (Zbm B m) = true := by
  have hr' := hr
  unfold Za6 at hr ⊢
  rw [Bool.and_eq_true, decide_eq_true_eq, List.all_eq_true] at hr ⊢
  obtain ⟨⟨h1, h2, h3⟩, h4⟩ := hr
  refine ⟨⟨by rw [pass_len]; exact h1, by rw [pass_len]; exact h2, ?_⟩, fun f hf => ?_⟩
  · rw [pass_at (by omega)]; exact h3
  · obtain ⟨g, hg, rfl⟩ := List.mem_map.1 hf
    have hF := h4 g hg
    have hFb : ∀ b ∈ g.blocks, blkB m g b = true := by
      have := hF; unfold Zed at this; rw [Bool.and_eq_true, List.all_eq_true] at this; exact this.2
    have hl : ∀ b ∈ g.blocks, (B b).landing = b.landing := fun b hb => (hB g b hF (hFb b hb)).1
    have hP := okF_funP hF
    unfold Zed
    rw [Bool.and_eq_true, decide_eq_true_eq, List.all_eq_true]
    refine ⟨?_, fun b hb => ?_⟩
    · unfold FunP at hP ⊢
      simp only [List.length_map]
      rw [land_pass hl]; exact hP
    · rw [blk_pass hl]
      obtain ⟨c, hc, rfl⟩ := List.mem_map.1 hb
      exact (hB g c hF (hFb c hc)).2
theorem funOf_pass {m : Zam} {f : Za9} (h : OkF m f) : Zcp (Zbm B m) f = { Zcp m f with blocks := (Zcp m f).blocks.map B } := pass_at (by have := h.f0; have := h.f1; omega)
theorem Zfl {m : Zam} {f : Za9} (h : OkF m f) : Za2 (Zbm B m) f = B (Za2 m f) := by
  unfold Za2
  rw [funOf_pass h]
  exact map_getD (by have := h.b0; have := h.b1; omega)
theorem frN_pass {m : Zam} {n : Int} {args : List Int} (h0 : 0 ≤ n) (h1 : n < m.funcs.length) : frN (Zbm B m) n args = frN m n args := by
  unfold frN; rw [pass_at (by omega)]
theorem called_pass {m : Zam} {s : Mach} {n : Int} {l : List Int} (h0 : 0 ≤ n) (h1 : n < m.funcs.length) : Zcj (Zbm B m) s n l = Zcj m s n l := by
  unfold Zcj; rw [frN_pass h0 h1]
end
end Go.Proofs.YtoelbgjpmpoolaaGreat
namespace Go.Proofs.YtoelbgjpmpoolaaGreat
open Go Dv
set_option maxRecDepth 10000
set_option linter.unusedSimpArgs false
end Go.Proofs.YtoelbgjpmpoolaaGreat
namespace Go.Proofs.YtoelbgjpmpoolaaGreat
open Go Dv
set_option maxRecDepth 10000
set_option linter.unusedSimpArgs false
end Go.Proofs.YtoelbgjpmpoolaaGreat
namespace Go.Proofs.YtoelbgjpmpoolaaGreat
open Go Dv
set_option maxRecDepth 10000
set_option linter.unusedSimpArgs false
theorem isAt_mono {is js : List Bool} (h : leL is js) {n : Int} (k : isAt is n = true) : isAt js n = true := h _ k
theorem callsB_mono {b : Zbe} {is js : List Bool} (h : leL is js) (k : callsB b is = true) : callsB b js = true := by
  unfold callsB at k ⊢
  rw [List.any_eq_true] at k ⊢
  obtain ⟨x, hx, hk⟩ := k
  refine ⟨x, hx, ?_⟩
  cases e : decide (x.op = 11) with
  | false => rw [e] at hk; exact hk
  | true => rw [e] at hk; exact isAt_mono h hk
theorem outB_mono (f : Func) (b : Zbe) (is js : List Bool) (h : leL is js) (k : outB f b is = true) : outB f b js = true := by
  unfold outB at k ⊢
  simp only [Bool.or_eq_true] at k ⊢
  rcases k with k | k | k | k
  · exact .inl k
  · exact .inr (.inl k)
  · refine .inr (.inr (.inl ?_))
    cases e : decide (b.fin.kind = 4) with
    | false => rw [e] at k; exact k
    | true =>
      rw [e] at k
      simp only [cond_true] at k ⊢
      cases e2 : isAt is b.fin.f with
      | false => rw [e2] at k; cases k
      | true => rw [e2] at k; rw [isAt_mono h e2]; exact k
  · exact .inr (.inr (.inr (callsB_mono h k)))
def outL (m : Zam) : List Bool := spreadL outB m
abbrev FOb (f : FuncId) (args : List AV) (l : List Bool) : Prop := FO Tryz.prog f args 1 l.length (fun i => [.bool (l.getD i false)])
theorem okB_of {m : Zam} (h : Za6 m = true) {n i : Nat} (hn : n < m.funcs.length) (hi : i < (m.funcs.getD n default).blocks.length) : OkB m.funcs.length (m.funcs.getD n default).blocks.length ((m.funcs.getD n default).blocks.getD i default) := blk_ok (Zeu (right_funcs h hn) hi)
theorem c_tOut (m : Zam) : FOb 19 [.agg (Zan m)] (outL m) := by
  refine Zei tok Tryz.func19 rfl (by decide +kernel) (Nat.le_of_ble_eq_true rfl) ?_
  (repeat' first | refine Zad ?_ | (refine Zab tok (by rfl) ?_; conv => whnf))
  refine .inl ⟨_, _, _, uG (QC.fo (rd := []) (c_spread (g := 57) (cap := []) outB m rfl (fun h n hn i hi is hl => c_Out1 _ _ is (okB_of h hn hi) hl) outB_mono) (Ress.imms rfl) (.inl rfl) rfl), ?_⟩
  conv => whnf
  (repeat' (refine Zah ?_; conv => whnf))
  exact ⟨_, rfl, .rs rfl (Nat.le_refl _) rfl (fun _ _ => rfl)⟩
end Go.Proofs.YtoelbgjpmpoolaaGreat
namespace Go.Proofs.YtoelbgjpmpoolaaGreat
open Go Dv
set_option maxRecDepth 10000
set_option linter.unusedSimpArgs false
def Zd8 (out : List Bool) (b : Zbe) : Bool := decide (b.fin.kind = 4 ∧ isAt out b.fin.f = false ∧ b.ins.length < 64)
def calmI (b : Zbe) : Ins := ⟨11, b.fin.dst, 0, 0, 0, b.fin.f, b.fin.args⟩
def Zbb (out : List Bool) (b : Zbe) : Zbe := if Zd8 out b = true then { b with ins := b.ins ++ [calmI b], fin := ⟨2, 0, 0, 0, [], b.fin.to, 0, 0⟩ } else b
theorem Zd3 {out : List Bool} {b : Zbe} : Zd8 out b = true ↔ b.fin.kind = 4 ∧ isAt out b.fin.f = false ∧ b.ins.length < 64 := by
  unfold Zd8; rw [decide_eq_true_eq]
theorem calmP_hb {out : List Bool} {b : Zbe} {c : Bool} (h : (bif bif !decide (b.fin.kind = 4) then true else out.getD b.fin.f.toNat false then true else decide ((64 : Int) ≤ b.ins.length)) = c) : Zd8 out b = !c := by
  rw [Bool.eq_iff_iff, Zd3, ← h]
  unfold isAt
  cases h1 : decide (b.fin.kind = 4) <;> cases h2 : out.getD b.fin.f.toNat false <;> simp at h1 ⊢ <;> omega
theorem c_calmed0 (b : Zbe) (out : List Bool) (hk : b.fin.kind = 4 → 0 ≤ b.fin.f ∧ b.fin.f < out.length) (hp : Zd8 out b = false) : FC Tryz.prog 50 [.agg (Za5 b), Zfk out] (.tup [.agg (Za5 b), .bool false]) := by
  refine Zao tok Tryz.func50 rfl (by decide +kernel) (Nat.le_of_ble_eq_true rfl) ?_
  have hmx : maxL = 4294967296 := rfl
  ((repeat' ((fail_if_success (show AWp _ _ _ (Code.region 3 _ _) _ _)); first | refine Zad ?_ | (refine Zab tok (by rfl) ?_; conv => whnf) | (refine Zag ?_; conv => whnf) | refine Zaf rfl (fun hb => ?_) (fun hb => ?_) | (refine @And.intro (Zaa _ _ _ _) _ ?_ ?_; rotate_left; (conv => whnf); rotate_right))); all_goals (try ((guard_target = Zaa _ _ _ _); ((refine Za1 ?_; intro hgd; (conv at hgd => whnf))); (all_goals (try simp only [Zaa, kzz, kz11, kz12, maxL, Zac] at *)); all_goals omega)))
  · (repeat' first | (refine Zab tok (by rfl) ?_; conv => whnf) | (refine Zah ?_; conv => whnf))
    exact ⟨_, rfl, Rel.tup (.cons (Rel.agg (Rels.imm rfl)) (.cons (Rel.imm rfl) .nil))⟩
  · exfalso
    rw [calmP_hb hb] at hp; cases hp
theorem c_calmed1 (b : Zbe) (out : List Bool) (hk : 0 ≤ b.fin.f ∧ b.fin.f < out.length) (hp : Zd8 out b = true) : HC Tryz.prog [] 50 [((990, 0, 0), insR b.ins)] [.agg (blkO b (.rs (990, 0, 0) 7 0 b.ins.length)), Zfk out] (.tup [.agg (Za5 (Zbb out b)), .bool true]) [] := by
  refine Zca tok Tryz.func50 rfl (by decide +kernel) (Nat.le_of_ble_eq_true rfl) ?_
  refine AWp_after ?_
  have hmx : maxL = 4294967296 := rfl
  have h64 := (Zd3.1 hp).2.2
  ((repeat' ((fail_if_success (show AWp _ _ _ (Code.region 3 _ _) _ _)); first | refine Zad ?_ | (refine Zab tok (by rfl) ?_; conv => whnf) | (refine Zag ?_; conv => whnf) | (refine Zah ?_; conv => whnf) | refine Zaf rfl (fun hb => ?_) (fun hb => ?_) | (refine @And.intro (Zaa _ _ _ _) _ ?_ ?_; rotate_left; (conv => whnf); rotate_right))); all_goals (try ((guard_target = Zaa _ _ _ _); (first | refine Zae ?_ | (refine Za1 ?_; intro hgd; (conv at hgd => whnf))); (first | refine And.intro (Zem rfl ?_) ?_ | skip); (all_goals (try simp only [Zaa, kzz, kz11, kz12, maxL, Zac] at *)); all_goals omega)))
  · exfalso
    rw [calmP_hb hb] at hp; cases hp
  clear hb
  have hB : Zbb out b = { b with ins := b.ins ++ [calmI b], fin := ⟨2, 0, 0, 0, [], b.fin.to, 0, 0⟩ } := if_pos hp
  rw [hB]
  skip
  refine ⟨_, Weak.fam (tl := [(4, .bp (4, 0, 0) 0), (5, .bool true)]) (hl := [((4, 0, 0), .row true 14 1 (fun _ => Za5 { b with ins := b.ins ++ [calmI b], fin := ⟨2, 0, 0, 0, [], b.fin.to, 0, 0⟩ }))]) (F := noH) [] rfl (fun i hi => by cases hi) (.cons (.bp rfl rfl) (.cons (.imm rfl) .nil)) (.old rfl rfl (GB.one ?_ (fun _ => rfl)) .nil) noF (fun i hi => by cases hi), _, [], rfl, rfl, rfl, rfl, .nil, .eq rfl⟩
  refine .cons (.imm rfl) (.cons (.imm rfl) (.cons (.imm rfl) (.cons (.imm rfl) (.cons (.imm rfl) (.cons (.frz (hd_no rfl) rfl (Nat.le_of_eq (Nat.zero_add _)) ?_ (fun x hx => GVs.eqI rfl ?_) (fun _ _ => rfl)) (.cons (.imm rfl) (.cons (.imm rfl) (.cons (.imm rfl) (.cons (.imm rfl) (.cons (.wk rfl (.nsl rfl)) (.cons (.imm rfl) (.cons (.imm rfl) (.cons (.imm rfl) .nil)))))))))))))
  · simp
  · rw [Nat.zero_add]
    exact app_snoc Zbc default 7 rfl (fun q _ => rfl) rfl rfl hx
end Go.Proofs.YtoelbgjpmpoolaaGreat
namespace Go.Proofs.YtoelbgjpmpoolaaGreat
open Go Dv
set_option maxRecDepth 10000
set_option linter.unusedSimpArgs false
def blkG (l : List Func) (p : Nat → Bool) : Zaq := famC 1000 (fun j z => bif Nat.beq z 0 && (Nat.blt j l.length && p j) then some (blkR j (l.getD j default).blocks (l.getD j default).blocks.length (fun _ => .any)) else none)
def insG (l : List Func) (p : Nat → Nat → Bool) : Zaq := famC 1001 (fun j q => bif (Nat.blt j l.length && Nat.blt q (l.getD j default).blocks.length) && p j q then some (insR ((l.getD j default).blocks.getD q default).ins) else none)
def Zbu (l : List Func) (p : Nat → Bool) (r : Nat → Nat → Bool) : Zaq := orH (blkG l p) (insG l r)
theorem blkG_some {l : List Func} {p : Nat → Bool} {j : Dv.Id} {b : Zar} (h : blkG l p j = some b) : ∃ i, j = (1000, i, 0) ∧ i < l.length ∧ p i = true ∧ b = blkR i (l.getD i default).blocks (l.getD i default).blocks.length (fun _ => .any) := by
  obtain ⟨a, z, rfl, h3⟩ := famC_some h
  cases e : (Nat.beq z 0 && (Nat.blt a l.length && p a)) with
  | false => rw [e] at h3; cases h3
  | true =>
    rw [e] at h3
    rw [Bool.and_eq_true, Bool.and_eq_true, Nat.blt_eq] at e
    have := Nat.eq_of_beq_eq_true e.1
    subst this
    exact ⟨a, rfl, e.2.1, e.2.2, (Option.some.inj h3).symm⟩
theorem blkG_at {l : List Func} {p : Nat → Bool} {i : Nat} (h : i < l.length) (hp : p i = true) : blkG l p (1000, i, 0) = some (blkR i (l.getD i default).blocks (l.getD i default).blocks.length (fun _ => .any)) := by
  show (bif (Nat.beq 0 0 && (Nat.blt i l.length && p i)) then _ else none) = _
  have : (Nat.beq 0 0 && (Nat.blt i l.length && p i)) = true := by
    rw [Bool.and_eq_true, Bool.and_eq_true, Nat.blt_eq]; exact ⟨rfl, h, hp⟩
  rw [this]; rfl
theorem insG_some {l : List Func} {p : Nat → Nat → Bool} {j : Dv.Id} {b : Zar} (h : insG l p j = some b) : ∃ i q, j = (1001, i, q) ∧ i < l.length ∧ q < (l.getD i default).blocks.length ∧ p i q = true ∧ b = insR ((l.getD i default).blocks.getD q default).ins := by
  obtain ⟨a, q, rfl, h3⟩ := famC_some h
  cases e : ((Nat.blt a l.length && Nat.blt q (l.getD a default).blocks.length) && p a q) with
  | false => rw [e] at h3; cases h3
  | true =>
    rw [e] at h3
    rw [Bool.and_eq_true, Bool.and_eq_true, Nat.blt_eq, Nat.blt_eq] at e
    exact ⟨a, q, rfl, e.1.1, e.1.2, e.2, (Option.some.inj h3).symm⟩
theorem insG_at {l : List Func} {p : Nat → Nat → Bool} {i q : Nat} (h : i < l.length) (hq : q < (l.getD i default).blocks.length) (hp : p i q = true) : insG l p (1001, i, q) = some (insR ((l.getD i default).blocks.getD q default).ins) := by
  show (bif ((Nat.blt i l.length && Nat.blt q (l.getD i default).blocks.length) && p i q) then _ else none) = _
  have : ((Nat.blt i l.length && Nat.blt q (l.getD i default).blocks.length) && p i q) = true := by
    rw [Bool.and_eq_true, Bool.and_eq_true, Nat.blt_eq, Nat.blt_eq]; exact ⟨⟨h, hq⟩, hp⟩
  rw [this]; rfl
theorem Zcd {l : List Func} {p : Nat → Bool} {r : Nat → Nat → Bool} {i : Nat} (h : i < l.length) (hp : p i = true) : Zbu l p r (1000, i, 0) = some (blkR i (l.getD i default).blocks (l.getD i default).blocks.length (fun _ => .any)) := by
  unfold Zbu orH; rw [blkG_at h hp]
theorem Zbq {l : List Func} {p : Nat → Bool} {r : Nat → Nat → Bool} {i q : Nat} (h : i < l.length) (hq : q < (l.getD i default).blocks.length) (hp : r i q = true) : Zbu l p r (1001, i, q) = some (insR ((l.getD i default).blocks.getD q default).ins) := by
  show insG l r (1001, i, q) = _
  exact insG_at h hq hp
theorem Zc7 {l : List Func} {p : Nat → Bool} {r : Nat → Nat → Bool} {j : Dv.Id} {b : Zar} (h : Zbu l p r j = some b) :
    (∃ i, j = (1000, i, 0) ∧ i < l.length ∧ p i = true ∧ b = blkR i (l.getD i default).blocks (l.getD i default).blocks.length (fun _ => .any)) ∨
    ∃ i q, j = (1001, i, q) ∧ i < l.length ∧ q < (l.getD i default).blocks.length ∧ r i q = true ∧ b = insR ((l.getD i default).blocks.getD q default).ins := by
  rcases orH_some h with e | ⟨_, e⟩
  · exact .inl (blkG_some e)
  · exact .inr (insG_some e)
def rdM3 (l : List Func) : List Dv.Id := (900, 0, 0) :: ((List.range l.length).map (fun j => (1000, j, 0)) ++ (List.range l.length).flatMap fun i => (List.range (l.getD i default).blocks.length).map fun q => (1001, i, q))
theorem rdM3_blk {l : List Func} {j : Nat} (h : j < l.length) : (1000, j, 0) ∈ rdM3 l := by simp [rdM3, h]
theorem rdM3_ins {l : List Func} {j q : Nat} (h : j < l.length) (hq : q < (l.getD j default).blocks.length) : (1001, j, q) ∈ rdM3 l := by
  unfold rdM3
  refine List.mem_cons_of_mem _ (List.mem_append_right _ (List.mem_flatMap.2 ⟨j, List.mem_range.2 h, List.mem_map.2 ⟨q, List.mem_range.2 hq, rfl⟩⟩))
theorem ress_mod3 {h : Zaq} {l : List Func} (h900 : h (900, 0, 0) = some (funR l l.length (fun _ => .any))) (h1000 : ∀ j, j < l.length → h (1000, j, 0) = some (blkR j (l.getD j default).blocks (l.getD j default).blocks.length (fun _ => .any)))
    (h1001 : ∀ j q, j < l.length → q < (l.getD j default).blocks.length → h (1001, j, q) = some (insR ((l.getD j default).blocks.getD q default).ins)) : Ress h (rdM3 l) [.agg [.rs (900, 0, 0) 3 0 l.length]] [.agg (Zan ⟨l⟩)] := by
  refine .cons (.agg (.cons (.rsN (imm := false) (sz := 3) (k := l.length) (f := fun j => [iv (l.getD j default).params, iv (l.getD j default).regs, sel (Nat.blt j l.length) (.rs (1000, j, 0) 14 0 (l.getD j default).blocks.length) .any]) h900 (List.mem_cons_self) (Nat.le_of_eq (Nat.zero_add _)) rfl (fun i hi => ?_)) .nil)) .nil
  rw [Nat.zero_add, Za8 hi]
  refine .cons (.imm rfl) (.cons (.imm rfl) (.cons (.rsN (imm := false) (k := (l.getD i default).blocks.length) (f := fun q => blkO ((l.getD i default).blocks.getD q default) (sel (Nat.blt q (l.getD i default).blocks.length) (.rs (1001, i, q) 7 0 ((l.getD i default).blocks.getD q default).ins.length) .any)) (h1000 i hi) (rdM3_blk hi) (Nat.le_of_eq (Nat.zero_add _)) rfl (fun q hq => ?_)) .nil))
  rw [Nat.zero_add, Za8 hq]
  exact .cons (.imm rfl) (.cons (.imm rfl) (.cons (.imm rfl) (.cons (.imm rfl) (.cons (.imm rfl) (.cons (.rs (h1001 i q hi hq) (rdM3_ins hi hq) (Nat.le_of_eq (Nat.zero_add _)) rfl (fun x hx => by rw [Nat.zero_add])) (Ress.imms rfl))))))
theorem copyH_dom {l : List Func} {i : Dv.Id} (h : (copyH l i).isSome = true) : i = (900, 0, 0) ∨ (∃ j, i = (1000, j, 0)) ∨ ∃ j q, i = (1001, j, q) := by
  cases e : copyH l i with
  | none => rw [e] at h; cases h
  | some b =>
    rcases orH_some e with e | ⟨_, e⟩
    · simp only [Zbz] at e
      cases e2 : idEq (900, 0, 0) i with
      | false => rw [e2] at e; cases e
      | true => have := Zbh.1 e2; exact .inl this.symm
    · rcases Zce e with ⟨i, rfl, _⟩ | ⟨i, q, rfl, _⟩
      · exact .inr (.inl ⟨i, rfl⟩)
      · exact .inr (.inr ⟨i, q, rfl⟩)
def pO (i j : Nat) : Bool := Nat.ble i j
def rO (i j _q : Nat) : Bool := Nat.ble i j
def pI (i j : Nat) : Bool := Nat.blt i j
def rI (i k j q : Nat) : Bool := Nat.blt i j || (Nat.beq j i && Nat.ble k q)
theorem Zdo {i k j q : Nat} : rI i k j q = true ↔ i < j ∨ (j = i ∧ k ≤ q) := by
  unfold rI; rw [Bool.or_eq_true, Bool.and_eq_true, Nat.blt_eq, Nat.ble_eq]; simp
theorem treeG_hd {l : List Func} {p : Nat → Bool} {r : Nat → Nat → Bool} {S : List (Dv.Id × Option Dv.Id)} {i : Dv.Id} (hS : ∀ a b, srcL S (1000, a, b) ≠ some i ∧ srcL S (1001, a, b) ≠ some i) : ∀ j, (Zbu l p r j).isSome = true → srcL S j ≠ some i := by
  intro j h
  cases e : Zbu l p r j with
  | none => rw [e] at h; cases h
  | some b =>
    rcases Zc7 e with ⟨a, rfl, _⟩ | ⟨a, q, rfl, _⟩
    · exact (hS a 0).1
    · exact (hS a q).2
def rowC (out : List Bool) (i k : Nat) (l : List Zbe) (x : Nat → AV) : Zar := .row false 14 l.length (fun q => blkO ((mapB (Zbb out) l k).getD q default) (sel (Nat.blt q k) (inss (Zbb out (l.getD q default)).ins) (x q)))
abbrev ownI (i : Nat) (l : List Zbe) (q : Nat) : AV := .rs (1001, i, q) 7 0 (l.getD q default).ins.length
theorem map_sel (ρ : Dv.Id → Option Dv.Id) (b : Bool) (x y : AV) : Zbi ρ (sel b x y) = sel b (Zbi ρ x) (Zbi ρ y) := by cases b <;> rfl
theorem treeG_hd2 {l : List Func} {p : Nat → Bool} {r : Nat → Nat → Bool} {S : List (Dv.Id × Option Dv.Id)} {i : Dv.Id} (hS : ∀ a, srcL S (1000, a, 0) ≠ some i) (hI : ∀ a q, r a q = true → srcL S (1001, a, q) ≠ some i) : ∀ j, (Zbu l p r j).isSome = true → srcL S j ≠ some i := by
  intro j h
  cases e : Zbu l p r j with
  | none => rw [e] at h; cases h
  | some b =>
    rcases Zc7 e with ⟨a, rfl, _⟩ | ⟨a, q, rfl, _, _, h2, _⟩
    · exact hS a
    · exact hI a q h2
theorem keepA {src : Dv.Id → Option Dv.Id} {h h' : Zaq} {fs : List Func} {i q n : Nat} {b b2 : Zar} {x : AV} (hx : immD x = true) (h1 : i < q → h' (1000, q, 0) = some b) (hs : src (1000, q, 0) = some (1000, q, 0)) (h2 : h' (901, 0, 0) = some b2) (hs2 : src (901, 0, 0) = some (901, 0, 0)) :
    GV src h h' (sel (Nat.blt q i) x (sel (Nat.beq q i) (.rs (901, 0, 0) 14 0 n) (mem1 fs q))) (sel (Nat.blt q i) x (sel (Nat.beq q i) (.rs (901, 0, 0) 14 0 n) (mem1 fs q))) := by
  by_cases e1 : q < i
  · exact .cc (Za8 e1) (Za8 e1) (.imm hx)
  · have e1' := Nat.le_of_not_lt e1
    by_cases e : q = i
    · subst e
      exact .cc ((Zbg e1').trans Zdn) ((Zbg e1').trans Zdn) (.rs h2 hs2 rfl rfl)
    · exact .cc ((Zbg e1').trans (Zez e)) ((Zbg e1').trans (Zez e)) (.rs (h1 (by omega)) hs rfl rfl)
theorem keepRow {src : Dv.Id → Option Dv.Id} {h h' : Zaq} {out : List Bool} {i k : Nat} {l : List Zbe} {x x' : Nat → AV} (hx : ∀ q, k ≤ q → q < l.length → GV src h h' (x q) (x' q)) : GB src h h' (rowC out i k l x) (rowC out i k l x') :=
  GB.row (Nat.le_refl _) (fun q hq => Zex (by
    by_cases e : q < k
    · exact .cc (Za8 e) (Za8 e) (.imm rfl)
    · exact .cc (Zbg (by omega)) (Zbg (by omega)) (hx q (by omega) hq))) (fun e => by cases e)
theorem keepFG {src : Dv.Id → Option Dv.Id} {h h' : Zaq} {fs : List Func} {i k k' : Nat} (hk : k ≤ k') (hh1 : ∀ p, p < fs.length → i < p → h (1000, p, 0) = some (blkR p (fs.getD p default).blocks (fs.getD p default).blocks.length (fun _ => .any)))
    (hh2 : ∀ p q, p < fs.length → q < (fs.getD p default).blocks.length → rI i k p q = true → h (1001, p, q) = some (insR ((fs.getD p default).blocks.getD q default).ins))
    (hh' : ∀ a b, h' (1000, a, b) = Zbu fs (pI i) (rI i k') (1000, a, b) ∧ h' (1001, a, b) = Zbu fs (pI i) (rI i k') (1001, a, b)) (hs : ∀ a b, src (1000, a, b) = some (1000, a, b) ∧ src (1001, a, b) = some (1001, a, b)) :
    ∀ j b, Zbu fs (pI i) (rI i k') j = some b → HOk src h h' j b := by
  intro j b e
  rcases Zc7 e with ⟨p, rfl, hp, h2, rfl⟩ | ⟨p, q, rfl, hp, hq, h2, rfl⟩
  · have h2' : i < p := by unfold pI at h2; rw [Nat.blt_eq] at h2; exact h2
    refine HOk.mk (hs p 0).1 (hh1 p hp h2') (Zdk (fun q hq => ?_))
    have hi := Zbq (p := pI i) (r := rI i k') hp hq (Zdo.2 (.inl h2'))
    exact .cc (Za8 hq) (Za8 hq) (.rs ((hh' p q).2.trans hi) (hs p q).2 rfl rfl)
  · have h2' := Zdo.1 h2
    exact HOk.mk (hs p q).2 (hh2 p q hp hq (Zdo.2 (by omega))) (Zd4 _)
theorem keepF {src : Dv.Id → Option Dv.Id} {h h' : Zaq} {fs : List Func} {i k k' : Nat} (hk : k ≤ k') (hh : ∀ a b, h (1000, a, b) = Zbu fs (pI i) (rI i k) (1000, a, b) ∧ h (1001, a, b) = Zbu fs (pI i) (rI i k) (1001, a, b))
    (hh' : ∀ a b, h' (1000, a, b) = Zbu fs (pI i) (rI i k') (1000, a, b) ∧ h' (1001, a, b) = Zbu fs (pI i) (rI i k') (1001, a, b)) (hs : ∀ a b, src (1000, a, b) = some (1000, a, b) ∧ src (1001, a, b) = some (1001, a, b)) :
    ∀ j b, Zbu fs (pI i) (rI i k') j = some b → HOk src h h' j b :=
  keepFG hk (fun p hp h2 => (hh p 0).1.trans (Zcd hp (by unfold pI; rw [Nat.blt_eq]; exact h2))) (fun p q hp hq h2 => (hh p q).2.trans (Zbq hp hq h2)) hh' hs
theorem kill_blkR (i : Nat) (l : List Zbe) : Dv.mapB (killL [(902, 0, 0)]) (blkR i l l.length (fun _ => .any)) = blkR i l l.length (fun _ => .any) := by
  unfold blkR Dv.mapB
  simp only [cond_false]
  congr 1
  funext q
  show [_, _, _, _, _, Zbi _ (sel _ _ _), _, _, _, _, _, _, _, _] = _
  rw [map_sel]; rfl
theorem nxt_len' {len : Nat} {D : Nat → List Bool → Bool} : ∀ (k : Nat) (a : List Bool), a.length = len → (iterN len D k a).length = len
  | 0, a, h => h
  | k + 1, a, h => nxt_len' k _ (nxt_len a)
theorem outL_len {m : Zam} (hr : Za6 m = true) : (outL m).length = m.funcs.length := by
  unfold outL spreadL; rw [if_pos hr]; unfold lfp; exact nxt_len' _ _ (by simp)
def Zcq (m : Zam) : Zam := doneM (Zbb (outL m)) m
set_option maxHeartbeats 4000000 in
theorem c_cModule (m : Zam) : FC Tryz.prog 14 [.agg (Zan m)] (.tup [.agg (Zan (Zcq m)), iv (errM m)]) := by
  obtain ⟨fs⟩ := m
  refine Zao tok Tryz.func14 rfl (by decide +kernel) (Nat.le_of_ble_eq_true rfl) ?_
  refine Zap 0 (fun hl => ?_)
  have hl0 : fs.length ≤ maxL := hl.1.1
  have hmx : maxL = 4294967296 := rfl
  have hl1 : ∀ i, i < fs.length → (fs.getD i default).blocks.length ≤ maxL := fun i hi => (hl.1.2 i hi).2.2.1.1
  clear hl
  cases hr : Za6 ⟨fs⟩ with
  | false =>
    (repeat' first | refine Zad ?_ | (refine Zab tok (by rfl) ?_; conv => whnf))
    refine .inl ⟨_, _, _, uG (QC.fc (c_CopyF ⟨fs⟩) rfl), ?_⟩
    conv => whnf
    (repeat' first | refine Zad ?_ | (refine Zab tok (by rfl) ?_; conv => whnf))
    refine .inl ⟨_, _, _, uG (QC.fc (c_lRight c_lpad ⟨fs⟩) rfl), ?_⟩
    conv => whnf
    (repeat' first | refine Zad ?_ | (refine Zab tok (by rfl) ?_; conv => whnf) | (refine Zag ?_; conv => whnf) | (refine Zah ?_; conv => whnf) | refine Zaf rfl (fun hb => ?_) (fun hb => ?_))
    · refine ⟨_, rfl, Rel.tup (.cons (Rel.agg ?_) (.cons (Rel.int (by simp [errM, hr])) .nil))⟩
      rw [show Zcq ⟨fs⟩ = ⟨fs⟩ from by simp [Zcq, doneM, hr]]
      exact Rels.imm rfl
    · rw [hr] at hb; cases hb
  | true =>
  (repeat' first | refine Zad ?_ | (refine Zab tok (by rfl) ?_; conv => whnf))
  refine .inr ⟨_, _, _, uG (QH.ofF (c_Copy fs) rfl (fun i hi => by rcases copyH_dom hi with rfl | ⟨j, rfl⟩ | ⟨j, q, rfl⟩ <;> rfl)), ?_⟩
  conv => whnf
  (repeat' first | refine Zad ?_ | (refine Zab tok (by rfl) ?_; conv => whnf))
  have hc1 : ∀ j, j < fs.length → copyH fs (1000, j, 0) = some (blkR j (fs.getD j default).blocks (fs.getD j default).blocks.length (fun _ => .any)) := fun j hj => Zbj hj
  have hc2 : ∀ j q, j < fs.length → q < (fs.getD j default).blocks.length → copyH fs (1001, j, q) = some (insR ((fs.getD j default).blocks.getD q default).ins) := fun j q hj hq => Zbf (.inl ⟨hj, hq⟩)
  refine .inl ⟨_, _, _, uG (QC.sc (rd := rdM3 fs) (c_lRight c_lpad ⟨fs⟩) (ress_mod3 rfl (fun j hj => ?_) (fun j q hj hq => ?_)) rfl), ?_⟩
  · show bigH [] (copyH fs) _ (1000, j, 0) = _
    unfold bigH; rw [hc1 j hj]
  · show bigH [] (copyH fs) _ (1001, j, q) = _
    unfold bigH; rw [hc2 j q hj hq]
  conv => whnf
  (repeat' first | refine Zad ?_ | (refine Zab tok (by rfl) ?_; conv => whnf) | (refine Zag ?_; conv => whnf) | (refine Zah ?_; conv => whnf) | refine Zaf rfl (fun hb => ?_) (fun hb => ?_))
  · exfalso; rw [hr] at hb; cases hb
  clear hb
  refine .inl ⟨_, _, _, uG (QC.fo (rd := rdM3 fs) (c_tOut ⟨fs⟩) (ress_mod3 rfl (fun j hj => ?_) (fun j q hj hq => ?_)) (.inr (fun _ _ => rfl)) rfl), ?_⟩
  · show bigH [] (copyH fs) _ (1000, j, 0) = _
    unfold bigH; rw [hc1 j hj]
  · show bigH [] (copyH fs) _ (1001, j, q) = _
    unfold bigH; rw [hc2 j q hj hq]
  conv => whnf
  have hgen : ∃ out, outL ⟨fs⟩ = out := ⟨_, rfl⟩
  obtain ⟨out, hout⟩ := hgen
  have hol : out.length = fs.length := by rw [← hout]; exact outL_len hr
  rw [hout]
  (repeat' ((fail_if_success (show AWp _ _ _ (Code.region 6 _ _) _ _)); first | refine Zad ?_ | (refine Zab tok (by rfl) ?_; conv => whnf) | refine Zai ?_))
  refine Zau (fun i : Nat => mkF [(1, .bp (1, 0, 0) 0), (2, .bp (2, 0, 0) 0), (3, iv 0), (4, Zfk out), (20, .rs (900, 0, 0) 3 0 fs.length), (21, iv fs.length), (22, iv i)] [((1, 0, 0), .row false 1 1 (fun _ => [.rs (900, 0, 0) 3 0 fs.length])), ((2, 0, 0), Zal [.nsl]), ((900, 0, 0), funR1 fs (fun j => sel (Nat.blt j i) (Zbt (mapB (Zbb out) (fs.getD j default).blocks (fs.getD j default).blocks.length)) (mem1 fs j)))] (Zbu fs (pO i) (rO i))) (fun i => i ≤ fs.length) (fun i => fs.length - i) 0 (Nat.zero_le _) ?_ ?_
  · refine Weak.fam [] rfl (fun i hi => by cases hi) ?_ ?_ ?_ (fun i hi => by cases hi)
    · refine .cons (.bp rfl rfl) (.cons (.bp rfl rfl) (.cons (.imm rfl) (.cons (.frz (hd_of rfl (treeG_hd (fun a b => ⟨(fun e => by cases e), fun e => by cases e⟩))) rfl (Nat.le_of_eq (Nat.zero_add _)) rfl (fun x hx => GVs.eqI rfl (by rw [Nat.zero_add])) (fun _ _ => rfl)) ?_)))
      (repeat' first | exact TLg.nil | refine TLg.cons (GV.imm rfl) ?_ | refine TLg.cons (GV.rs rfl rfl ?_ ?_) ?_)
      all_goals rfl
    · refine .old rfl rfl (GB.one (.cons (.rs rfl rfl rfl rfl) .nil) (fun e => by cases e)) (.old rfl rfl (GB.one (GVs.imm rfl) (fun _ => rfl)) (.old rfl rfl (GB.row (Nat.le_refl _) (fun q hq => .cons (.imm rfl) (.cons (.imm rfl) (.cons ?_ .nil))) (fun e => by cases e)) .nil))
      exact .cc (Za8 hq) (Zbg (Nat.zero_le _)) (.rs (show Zbu fs (pO 0) (rO 0) (1000, q, 0) = _ from Zcd hq rfl) rfl rfl rfl)
    · intro j b e
      rcases Zc7 e with ⟨p, rfl, hp, _, rfl⟩ | ⟨p, q, rfl, hp, hq, _, rfl⟩
      · refine HOk.mk rfl (b0 := blkR p (fs.getD p default).blocks (fs.getD p default).blocks.length (fun _ => .any)) ?_ (Zdk (fun q hq => .cc (Za8 hq) (Za8 hq) (.rs (show Zbu fs (pO 0) (rO 0) (1001, p, q) = _ from Zbq hp hq rfl) rfl rfl rfl)))
        show bigH [] (copyH fs) _ (1000, p, 0) = _
        unfold bigH; rw [hc1 p hp]
      · refine HOk.mk rfl (b0 := insR ((fs.getD p default).blocks.getD q default).ins) ?_ (Zd4 _)
        show bigH [] (copyH fs) _ (1001, p, q) = _
        unfold bigH; rw [hc2 p q hp hq]
  intro i hi
  ((repeat' ((fail_if_success (show AWp _ _ _ (Code.region 8 _ _) _ _)); first | refine Zad ?_ | (refine Zab tok (by rfl) ?_; conv => whnf) | refine Zai ?_ | (refine Zag ?_; conv => whnf) | (refine Zav ?_; conv => whnf) | (refine Zah ?_; conv => whnf) | refine Zaf rfl (fun hb => ?_) (fun hb => ?_) | (refine @And.intro (Zaa _ _ _ _) _ ?_ ?_; rotate_left; (conv => whnf); rotate_right))); all_goals (try ((guard_target = Zaa _ _ _ _); refine Zae ?_; (all_goals (try simp only [Zaa, kzz, kz11, kz12, maxL, Zac] at *)); all_goals omega)))
  · have hlt : i < fs.length := by simp only [decide_eq_true_eq] at hb; omega
    clear hb
    have hz : 0 + (i : Int).toNat = i := by simp
    have hgen : ∃ l, (fs.getD i default).blocks = l := ⟨_, rfl⟩
    obtain ⟨l, hlb⟩ := hgen
    have hll := hl1 i hlt
    rw [hlb] at hll
    refine fAV (y := .rs (1000, i, 0) 14 0 l.length) ?_ ?_
    · show sel (Nat.blt (0 + (i : Int).toNat) i) _ (mem1 fs (0 + (i : Int).toNat)) = _
      rw [hz, Zbg (Nat.le_refl _)]; unfold mem1; rw [hlb]
    conv => whnf
    (repeat' ((fail_if_success (show AWp _ _ _ (Code.region 8 _ _) _ _)); refine Zad ?_))
    refine Zay (Weak.fam (L := []) (tl := [(1, .bp (1, 0, 0) 0), (2, .bp (2, 0, 0) 0), (3, iv 0), (4, Zfk out), (6, .bp (6, 0, 0) 0), (20, .rs (900, 0, 0) 3 0 fs.length), (21, iv fs.length), (22, iv i)]) (hl := [((1, 0, 0), .row false 1 1 (fun _ => [.rs (900, 0, 0) 3 0 fs.length])), ((2, 0, 0), Zal [.nsl]), ((900, 0, 0), funR1 fs (fun j => sel (Nat.blt j i) (Zbt (mapB (Zbb out) (fs.getD j default).blocks (fs.getD j default).blocks.length)) (sel (Nat.beq j i) (.rs (901, 0, 0) 14 0 l.length) (mem1 fs j)))), ((6, 0, 0), .row false 3 1 (fun _ => [iv (fs.getD i default).params, iv (fs.getD i default).regs, .rs (901, 0, 0) 14 0 l.length])), ((901, 0, 0), rowC out i 0 l (ownI i l))]) (F := (Zbu fs (pI i) (rI i 0))) [((901, 0, 0), some (1000, i, 0))] rfl (fun c hc => ?_) ?_ ?_ ?_ (fun i hi => by cases hi)) ?_
    · simp only [tgts, List.mem_singleton] at hc; subst hc
      left
      show Zbu fs (pI i) (rI i 0) (1000, i, 0) = none
      cases e : Zbu fs (pI i) (rI i 0) (1000, i, 0) with
      | none => rfl
      | some b =>
        rcases Zc7 e with ⟨p, e1, _, e2, _⟩ | ⟨p, q, e1, _⟩
        · cases e1; unfold pI at e2; rw [Nat.blt_eq] at e2; omega
        · cases e1
    · (repeat' first | exact TLg.nil | refine TLg.cons (GV.imm rfl) ?_ | refine TLg.cons (GV.bp rfl rfl) ?_ | refine TLg.cons (GV.rs rfl rfl ?_ ?_) ?_)
      all_goals rfl
    · refine .old rfl rfl (GB.one (.cons (.rs rfl rfl rfl rfl) .nil) (fun e => by cases e)) (.old rfl rfl (GB.one (GVs.imm rfl) (fun _ => rfl)) (.old rfl rfl (GB.row (Nat.le_refl _) (fun q hq => .cons (.imm rfl) (.cons (.imm rfl) (.cons ?_ .nil))) (fun e => by cases e)) (.old rfl rfl (GB.one (.cons (.int (by rw [hz])) (.cons (.int (by rw [hz])) (.cons (.rs rfl Zfs rfl rfl) .nil))) (fun e => by cases e)) (.old (b0 := blkR i (fs.getD i default).blocks (fs.getD i default).blocks.length (fun _ => .any)) rfl ?_ ?_ .nil))))
      · by_cases h1 : q < i
        · exact .cc (Za8 h1) (Za8 h1) (.imm rfl)
        · by_cases h2 : q = i
          · subst h2
            exact .cc (Zbg (Nat.le_refl _)) ((Zbg (Nat.le_refl _)).trans Zdn) (.rs rfl Zfs rfl (by rw [hlb]))
          · refine .cc (Zbg (Nat.le_of_not_lt h1)) ((Zbg (Nat.le_of_not_lt h1)).trans (Zez h2)) (.rs (show Zbu fs (pI i) (rI i 0) (1000, q, 0) = _ from Zcd hq (by unfold pI; rw [Nat.blt_eq]; omega)) (Zb3 (fun h => h2 (by cases h))) rfl rfl)
      · show Zbu fs (pO i) (rO i) (1000, i, 0) = _
        exact Zcd hlt (by unfold pO; rw [Nat.ble_eq]; omega)
      · rw [hlb]
        refine GB.row (Nat.le_refl _) (fun q hq => ?_) (fun e => by cases e)
        rw [Zdf hq, if_neg (Nat.not_lt_zero q)]
        refine Zex (.cc (Za8 hq) (Zbg (Nat.zero_le _)) (.rs (b := insR (l.getD q default).ins) ?_ (Zb3 (fun h => by cases h)) rfl rfl))
        show Zbu fs (pI i) (rI i 0) (1001, i, q) = _
        rw [Zbq hlt (by rw [hlb]; exact hq) (Zdo.2 (.inr ⟨rfl, Nat.zero_le _⟩)), hlb]
    · intro j b e
      rcases Zc7 e with ⟨p, rfl, hp, h2, rfl⟩ | ⟨p, q, rfl, hp, hq, h2, rfl⟩
      · have h2' : i < p := by unfold pI at h2; rw [Nat.blt_eq] at h2; exact h2
        exact HOk.mk (Zb3 (fun h => by cases h)) (show Zbu fs (pO i) (rO i) (1000, p, 0) = _ from Zcd hp (by unfold pO; rw [Nat.ble_eq]; omega)) (Zdk (fun q hq => .cc (Za8 hq) (Za8 hq) (.rs (show Zbu fs (pI i) (rI i 0) (1001, p, q) = _ from Zbq hp hq (Zdo.2 (.inl h2'))) (Zb3 (fun h => by cases h)) rfl rfl)))
      · have h2' := Zdo.1 h2
        exact HOk.mk (Zb3 (fun h => by cases h)) (show Zbu fs (pO i) (rO i) (1001, p, q) = _ from Zbq hp hq (by unfold rO; rw [Nat.ble_eq]; omega)) (Zd4 _)
    (repeat' ((fail_if_success (show AWp _ _ _ (Code.region 9 _ _) _ _)); first | (refine Zab tok (by rfl) ?_; conv => whnf) | refine Zai ?_))
    refine Zau (fun k : Nat => mkF [(1, .bp (1, 0, 0) 0), (2, .bp (2, 0, 0) 0), (3, iv 0), (4, Zfk out), (6, .bp (6, 0, 0) 0), (20, .rs (900, 0, 0) 3 0 fs.length), (21, iv fs.length), (22, iv i), (27, .rs (901, 0, 0) 14 0 l.length), (28, iv l.length), (29, iv k)] [((1, 0, 0), .row false 1 1 (fun _ => [.rs (900, 0, 0) 3 0 fs.length])), ((2, 0, 0), Zal [.nsl]), ((900, 0, 0), funR1 fs (fun j => sel (Nat.blt j i) (Zbt (mapB (Zbb out) (fs.getD j default).blocks (fs.getD j default).blocks.length)) (sel (Nat.beq j i) (.rs (901, 0, 0) 14 0 l.length) (mem1 fs j)))), ((6, 0, 0), .row false 3 1 (fun _ => [iv (fs.getD i default).params, iv (fs.getD i default).regs, .rs (901, 0, 0) 14 0 l.length])), ((901, 0, 0), rowC out i k l (ownI i l))] (Zbu fs (pI i) (rI i k))) (fun k => k ≤ l.length) (fun k => l.length - k) 0 (Nat.zero_le _) ?_ ?_
    · refine Weak.fam [] rfl (fun i hi => by cases hi) ?_ ?_ ?_ (fun i hi => by cases hi)
      · (repeat' first | exact TLg.nil | refine TLg.cons (GV.imm rfl) ?_ | refine TLg.cons (GV.bp rfl rfl) ?_ | refine TLg.cons (GV.rs rfl rfl ?_ ?_) ?_)
        all_goals rfl
      · exact (.old rfl rfl (GB.one (.cons (.rs rfl rfl rfl rfl) .nil) (fun e => by cases e)) (.old rfl rfl (GB.one (GVs.imm rfl) (fun _ => rfl)) (.old rfl rfl (GB_fun1 (fun q hq => keepA rfl (fun h => show Zbu fs (pI i) (rI i 0) (1000, q, 0) = _ from Zcd hq (by unfold pI; rw [Nat.blt_eq]; exact h)) rfl rfl rfl)) (.old rfl rfl (GB.one (.cons (.imm rfl) (.cons (.imm rfl) (.cons (.rs rfl rfl rfl rfl) .nil))) (fun e => by cases e)) (.old rfl rfl (keepRow (fun q h1 hq => .rs (b := insR (l.getD q default).ins) (show Zbu fs (pI i) (rI i 0) (1001, i, q) = _ from by rw [Zbq hlt (by rw [hlb]; exact hq) (Zdo.2 (.inr ⟨rfl, h1⟩)), hlb]) rfl rfl rfl)) .nil)))))
      · exact keepF (Nat.le_refl _) (fun _ _ => ⟨rfl, rfl⟩) (fun _ _ => ⟨rfl, rfl⟩) (fun _ _ => ⟨rfl, rfl⟩)
    intro k hk
    ((repeat' ((fail_if_success (show AWp _ _ _ (Code.region 11 _ _) _ _)); first | refine Zad ?_ | (refine Zab tok (by rfl) ?_; conv => whnf) | refine Zai ?_ | (refine Zag ?_; conv => whnf) | (refine Zav ?_; conv => whnf) | refine Zaf rfl (fun hb => ?_) (fun hb => ?_) | (refine @And.intro (Zaa _ _ _ _) _ ?_ ?_; rotate_left; (conv => whnf); rotate_right))); all_goals (try ((guard_target = Zaa _ _ _ _); refine Zae ?_; (all_goals (try simp only [Zaa, kzz, kz11, kz12, maxL, Zac] at *)); all_goals omega)))
    · have hkl : k < l.length := by simp only [decide_eq_true_eq] at hb; omega
      clear hb
      have hzk : 0 + (k : Int).toNat = k := by simp
      refine fAV (y := ownI i l k) ?_ ?_
      · show sel (Nat.blt (0 + (k : Int).toNat) k) _ (ownI i l (0 + (k : Int).toNat)) = _
        rw [hzk, Zbg (Nat.le_refl _)]
      conv => whnf
      (repeat' ((fail_if_success (show AWp _ _ _ (Code.region 11 _ _) _ _)); refine Zad ?_))
      have hget : (mapB (Zbb out) l k).getD (0 + (k : Int).toNat) default = l.getD k default := by rw [hzk, Zdf hkl, if_neg (Nat.lt_irrefl k)]
      have hgen : ∃ b, l.getD k default = b := ⟨_, rfl⟩
      obtain ⟨b, hbk⟩ := hgen
      have hok : b.fin.kind = 4 → 0 ≤ b.fin.f ∧ b.fin.f < out.length := by
        have h1 := (blk_ok (Zeu (right_funcs hr hlt) (i := k) (by show k < (fs.getD i default).blocks.length; rw [hlb]; exact hkl))).fn
        simp only [hlb, hbk] at h1
        rw [hol]; exact h1
      cases hcp : Zd8 out b with
      | false =>
        have hcb : Zbb out b = b := by unfold Zbb; rw [if_neg (by rw [hcp]; simp)]
        refine Zay (Weak.fam (L := []) (tl := [(1, .bp (1, 0, 0) 0), (2, .bp (2, 0, 0) 0), (3, iv 0), (4, Zfk out), (6, .bp (6, 0, 0) 0), (7, iv k), (8, .bp (8, 0, 0) 0), (20, .rs (900, 0, 0) 3 0 fs.length), (21, iv fs.length), (22, iv i), (27, .rs (901, 0, 0) 14 0 l.length), (28, iv l.length), (29, iv k)]) (hl := [((1, 0, 0), .row false 1 1 (fun _ => [.rs (900, 0, 0) 3 0 fs.length])), ((2, 0, 0), Zal [.nsl]), ((900, 0, 0), funR1 fs (fun j => sel (Nat.blt j i) (Zbt (mapB (Zbb out) (fs.getD j default).blocks (fs.getD j default).blocks.length)) (sel (Nat.beq j i) (.rs (901, 0, 0) 14 0 l.length) (mem1 fs j)))), ((6, 0, 0), .row false 3 1 (fun _ => [iv (fs.getD i default).params, iv (fs.getD i default).regs, .rs (901, 0, 0) 14 0 l.length])), ((901, 0, 0), rowC out i (k + 1) l (ownI i l)), ((8, 0, 0), .row true 14 1 (fun _ => Za5 b))]) (F := (Zbu fs (pI i) (rI i (k + 1)))) [] rfl (fun c hc => by cases hc) ?_ ?_ ?_ (fun i hi => by cases hi)) ?_
        · (repeat' first | exact TLg.nil | refine TLg.cons (GV.imm rfl) ?_ | refine TLg.cons (GV.bp rfl rfl) ?_ | refine TLg.cons (GV.rs rfl rfl ?_ ?_) ?_)
          all_goals rfl
        · refine (.old rfl rfl (GB.one (.cons (.rs rfl rfl rfl rfl) .nil) (fun e => by cases e)) (.old rfl rfl (GB.one (GVs.imm rfl) (fun _ => rfl)) (.old rfl rfl (GB_fun1 (fun q hq => keepA rfl (fun h => show Zbu fs (pI i) (rI i (k + 1)) (1000, q, 0) = _ from Zcd hq (by unfold pI; rw [Nat.blt_eq]; exact h)) rfl rfl rfl)) (.old rfl rfl (GB.one (.cons (.imm rfl) (.cons (.imm rfl) (.cons (.rs rfl rfl rfl rfl) .nil))) (fun e => by cases e)) (.old rfl rfl (GB.row (Nat.le_refl _) (fun q hq => ?_) (fun e => by cases e)) (.old rfl rfl (GB.one ?_ (fun _ => rfl)) .nil))))))
          · by_cases h1 : q < k
            · rw [Zdf hq, Zdf hq, if_pos h1, if_pos (by omega)]
              exact Zex (.cc (Za8 h1) (Za8 (by omega)) (.imm rfl))
            · by_cases h2 : q = k
              · subst h2
                rw [Zdf hq, Zdf hq, if_neg h1, if_pos (Nat.lt_succ_self q), hbk, hcb]
                refine Zex (.cc (x' := .rs (1001, i, q) 7 0 b.ins.length) (y' := inss b.ins) ((Zbg (Nat.le_refl _)).trans (by rw [← hbk])) (Za8 (Nat.lt_succ_self q)) (.frz (hd_of rfl (treeG_hd2 (fun a e => by have e' := Option.some.inj e; cases e') (fun a q h e => by have e' := Option.some.inj e; cases e'; have := Zdo.1 h; omega))) (i := (1001, i, q)) (imm := true) (k := b.ins.length) (f := fun j => Zbc (b.ins.getD j default)) ?_ (Nat.le_of_eq (Nat.zero_add _)) rfl (fun x hx => GVs.eqI rfl (by rw [Nat.zero_add])) (fun _ _ => rfl)))
                show Zbu fs (pI i) (rI i q) (1001, i, q) = _
                rw [Zbq hlt (by rw [hlb]; exact hq) (Zdo.2 (.inr ⟨rfl, Nat.le_refl _⟩)), hlb, hbk]; rfl
              · rw [Zdf hq, Zdf hq, if_neg h1, if_neg (by omega)]
                refine Zex (.cc (Zbg (Nat.le_of_not_lt h1)) (Zbg (by omega)) (.rs (b := insR (l.getD q default).ins) (show Zbu fs (pI i) (rI i (k + 1)) (1001, i, q) = _ from by rw [Zbq hlt (by rw [hlb]; exact hq) (Zdo.2 (.inr ⟨rfl, by omega⟩)), hlb]) rfl rfl rfl))
          · show GVs _ _ _ (blkO ((mapB (Zbb out) l k).getD (0 + (k : Int).toNat) default) (ownI i l k)) (blkO b (inss b.ins))
            rw [hget, hbk]
            refine Zex (.cc (x' := .rs (1001, i, k) 7 0 b.ins.length) (by rw [← hbk]) rfl (.frz (hd_of rfl (treeG_hd2 (fun a e => by have e' := Option.some.inj e; cases e') (fun a q h e => by have e' := Option.some.inj e; cases e'; have := Zdo.1 h; omega))) (i := (1001, i, k)) (imm := true) (k := b.ins.length) (f := fun j => Zbc (b.ins.getD j default)) ?_ (Nat.le_of_eq (Nat.zero_add _)) rfl (fun x hx => GVs.eqI rfl (by rw [Nat.zero_add])) (fun _ _ => rfl)))
            show Zbu fs (pI i) (rI i k) (1001, i, k) = _
            rw [Zbq hlt (by rw [hlb]; exact hkl) (Zdo.2 (.inr ⟨rfl, Nat.le_refl _⟩)), hlb, hbk]; rfl
        · exact keepF (Nat.le_succ _) (fun _ _ => ⟨rfl, rfl⟩) (fun _ _ => ⟨rfl, rfl⟩) (fun _ _ => ⟨rfl, rfl⟩)
        (repeat' (refine Zab tok (by rfl) ?_; conv => whnf))
        refine .inl ⟨_, _, _, uG (QC.fc (c_calmed0 b out hok hcp) rfl), ?_⟩
        conv => whnf
        ((repeat' first | refine Zad ?_ | (refine Zab tok (by rfl) ?_; conv => whnf) | (refine Zag ?_; conv => whnf) | refine Zaf rfl (fun hb => ?_) (fun hb => ?_) | (refine @And.intro (Zaa _ _ _ _) _ ?_ ?_; rotate_left; (conv => whnf); rotate_right)); all_goals (try ((guard_target = Zaa _ _ _ _); refine Zae ?_; (all_goals (try simp only [Zaa, kzz, kz11, kz12, maxL, Zac] at *)); all_goals omega)))
        · cases hb
        refine ⟨k + 1, hkl, by omega, ?_⟩
        refine Weak.fam [] rfl (fun i hi => by cases hi) ?_ ?_ ?_ (fun i hi => by cases hi)
        · (repeat' first | exact TLg.nil | refine TLg.cons (GV.imm rfl) ?_ | refine TLg.cons (GV.bp rfl rfl) ?_ | refine TLg.cons (GV.rs rfl rfl ?_ ?_) ?_ | refine TLg.cons (GV.int ?_) ?_)
          all_goals first | rfl | exact Zak (by omega) (by omega)
        · exact (.old rfl rfl (GB.one (.cons (.rs rfl rfl rfl rfl) .nil) (fun e => by cases e)) (.old rfl rfl (GB.one (GVs.imm rfl) (fun _ => rfl)) (.old rfl rfl (GB_fun1 (fun q hq => keepA rfl (fun h => show Zbu fs (pI i) (rI i (k + 1)) (1000, q, 0) = _ from Zcd hq (by unfold pI; rw [Nat.blt_eq]; exact h)) rfl rfl rfl)) (.old rfl rfl (GB.one (.cons (.imm rfl) (.cons (.imm rfl) (.cons (.rs rfl rfl rfl rfl) .nil))) (fun e => by cases e)) (.old rfl rfl (keepRow (fun q h1 hq => .rs (b := insR (l.getD q default).ins) (show Zbu fs (pI i) (rI i (k + 1)) (1001, i, q) = _ from by rw [Zbq hlt (by rw [hlb]; exact hq) (Zdo.2 (.inr ⟨rfl, h1⟩)), hlb]) rfl rfl rfl)) .nil)))))
        · exact keepF (Nat.le_refl _) (fun _ _ => ⟨rfl, rfl⟩) (fun _ _ => ⟨rfl, rfl⟩) (fun _ _ => ⟨rfl, rfl⟩)
      | true =>
        have hcp4 := (Zd3.1 hcp).1
        refine Zay (Weak.fam (L := []) (tl := [(1, .bp (1, 0, 0) 0), (2, .bp (2, 0, 0) 0), (3, iv 0), (4, Zfk out), (6, .bp (6, 0, 0) 0), (7, iv k), (8, .bp (8, 0, 0) 0), (20, .rs (900, 0, 0) 3 0 fs.length), (21, iv fs.length), (22, iv i), (27, .rs (901, 0, 0) 14 0 l.length), (28, iv l.length), (29, iv k)]) (hl := [((1, 0, 0), .row false 1 1 (fun _ => [.rs (900, 0, 0) 3 0 fs.length])), ((2, 0, 0), Zal [.nsl]), ((900, 0, 0), funR1 fs (fun j => sel (Nat.blt j i) (Zbt (mapB (Zbb out) (fs.getD j default).blocks (fs.getD j default).blocks.length)) (sel (Nat.beq j i) (.rs (901, 0, 0) 14 0 l.length) (mem1 fs j)))), ((6, 0, 0), .row false 3 1 (fun _ => [iv (fs.getD i default).params, iv (fs.getD i default).regs, .rs (901, 0, 0) 14 0 l.length])), ((901, 0, 0), rowC out i k l (fun q => sel (Nat.beq q k) .any (ownI i l q))), ((8, 0, 0), .row false 14 1 (fun _ => blkO b (.rs (902, 0, 0) 7 0 b.ins.length))), ((902, 0, 0), insR b.ins)]) (F := (Zbu fs (pI i) (rI i (k + 1)))) [((902, 0, 0), some (1001, i, k))] rfl (fun c hc => ?_) ?_ ?_ ?_ (fun i hi => by cases hi)) ?_
        · simp only [tgts, List.mem_singleton] at hc; subst hc
          left
          show Zbu fs (pI i) (rI i (k + 1)) (1001, i, k) = none
          cases e : Zbu fs (pI i) (rI i (k + 1)) (1001, i, k) with
          | none => rfl
          | some b =>
            rcases Zc7 e with ⟨p, e1, _⟩ | ⟨p, q, e1, _, _, h2, _⟩
            · cases e1
            · cases e1; have := Zdo.1 h2; omega
        · (repeat' first | exact TLg.nil | refine TLg.cons (GV.imm rfl) ?_ | refine TLg.cons (GV.bp rfl rfl) ?_ | refine TLg.cons (GV.rs rfl rfl ?_ ?_) ?_)
          all_goals rfl
        · refine (.old rfl rfl (GB.one (.cons (.rs rfl rfl rfl rfl) .nil) (fun e => by cases e)) (.old rfl rfl (GB.one (GVs.imm rfl) (fun _ => rfl)) (.old rfl rfl (GB_fun1 (fun q hq => keepA rfl (fun h => show Zbu fs (pI i) (rI i (k + 1)) (1000, q, 0) = _ from Zcd hq (by unfold pI; rw [Nat.blt_eq]; exact h)) (Zb3 (fun h => by cases h)) rfl (Zb3 (fun h => by cases h)))) (.old rfl rfl (GB.one (.cons (.imm rfl) (.cons (.imm rfl) (.cons (.rs rfl rfl rfl rfl) .nil))) (fun e => by cases e)) (.old rfl rfl (keepRow (fun q h1 hq => ?_)) (.old rfl rfl (GB.one ?_ (fun e => by cases e)) (.old (b0 := insR b.ins) rfl ?_ (Zd4 _) .nil)))))))
          · by_cases h2 : q = k
            · subst h2; exact .cc rfl Zdn .any
            · refine .cc rfl (Zez h2) (.rs (b := insR (l.getD q default).ins) (show Zbu fs (pI i) (rI i (k + 1)) (1001, i, q) = _ from by rw [Zbq hlt (by rw [hlb]; exact hq) (Zdo.2 (.inr ⟨rfl, by omega⟩)), hlb]) (Zb3 (fun h => by cases h)) rfl rfl)
          · show GVs _ _ _ (blkO ((mapB (Zbb out) l k).getD (0 + (k : Int).toNat) default) (ownI i l k)) (blkO b (.rs (902, 0, 0) 7 0 b.ins.length))
            rw [hget, hbk]
            exact Zex (.rs rfl Zfs rfl (by rw [← hbk]))
          · show Zbu fs (pI i) (rI i k) (1001, i, k) = _
            rw [Zbq hlt (by rw [hlb]; exact hkl) (Zdo.2 (.inr ⟨rfl, Nat.le_refl _⟩)), hlb, hbk]
        · exact keepF (Nat.le_succ _) (fun _ _ => ⟨rfl, rfl⟩) (fun _ _ => ⟨rfl, rfl⟩) (fun _ _ => ⟨(Zb3 (fun h => by cases h)), (Zb3 (fun h => by cases h))⟩)
        (repeat' (refine Zab tok (by rfl) ?_; conv => whnf))
        refine .inr ⟨_, _, _, uG (QH.of (dead := [(902, 0, 0)]) [((990, 0, 0), .old (902, 0, 0), insR b.ins)] (c_calmed1 b out (hok hcp4) hcp) rfl (.old rfl (BLe.refl _) .nil) (.cons (.eq rfl) (.cons (.eq rfl) .nil)) [] rfl .nil rfl), ?_⟩
        conv => whnf
        ((repeat' first | refine Zad ?_ | (refine Zab tok (by rfl) ?_; conv => whnf) | (refine Zag ?_; conv => whnf) | refine Zaf rfl (fun hb => ?_) (fun hb => ?_) | (refine @And.intro (Zaa _ _ _ _) _ ?_ ?_; rotate_left; (conv => whnf); rotate_right)); all_goals (try ((guard_target = Zaa _ _ _ _); refine Zae ?_; (all_goals (try simp only [Zaa, kzz, kz11, kz12, maxL, Zac] at *)); all_goals omega)))
        · refine ⟨k + 1, hkl, by omega, ?_⟩
          refine Weak.fam [] rfl (fun i hi => by cases hi) ?_ ?_ ?_ (fun i hi => by cases hi)
          · (repeat' first | exact TLg.nil | refine TLg.cons (GV.imm rfl) ?_ | refine TLg.cons (GV.bp rfl rfl) ?_ | refine TLg.cons (GV.rs rfl rfl ?_ ?_) ?_ | refine TLg.cons (GV.int ?_) ?_)
            all_goals first | rfl | exact Zak (by omega) (by omega)
          · refine (.old rfl rfl (GB.one (.cons (.rs rfl rfl rfl rfl) .nil) (fun e => by cases e)) (.old rfl rfl (GB.one (GVs.imm rfl) (fun _ => rfl)) (.old rfl rfl (GB.row (Nat.le_refl _) (fun q hq => .cons (.imm rfl) (.cons (.imm rfl) (.cons (.cc (x' := sel (Nat.blt q i) (Zbt (mapB (Zbb out) (fs.getD q default).blocks (fs.getD q default).blocks.length)) (sel (Nat.beq q i) (.rs (901, 0, 0) 14 0 l.length) (mem1 fs q))) (by show Zbi _ (sel _ _ (sel _ _ _)) = _; rw [map_sel, map_sel]; rfl) rfl (keepA rfl (fun h => show Zbu fs (pI i) (rI i (k + 1)) (1000, q, 0) = _ from Zcd hq (by unfold pI; rw [Nat.blt_eq]; exact h)) rfl rfl rfl)) .nil))) (fun e => by cases e)) (.old rfl rfl (GB.one (.cons (.imm rfl) (.cons (.imm rfl) (.cons (.rs rfl rfl rfl rfl) .nil))) (fun e => by cases e)) (.old rfl rfl (GB.row (Nat.le_refl _) (fun q hq => GVs.upd (fun e => ?_) (fun e => ?_)) (fun e => by cases e)) .nil)))))
            · rw [hzk] at e; subst e
              rw [Zdf hkl, if_pos (Nat.lt_succ_self q), Za8 (Nat.lt_succ_self q), hbk]
              exact GVs.imm rfl
            · rw [hzk] at e
              have hql : q < l.length := hq
              rw [Zdf hql]
              by_cases h1 : q < k
              · rw [if_pos (show q < k + 1 by omega), Za8 (show q < k + 1 by omega)]
                refine GVs.eqI rfl ?_
                show Zbw _ (blkO _ (sel _ _ _)) = _
                rw [Zdf hql, if_pos h1, Za8 h1]; rfl
              · rw [if_neg (show ¬ q < k + 1 by omega), Zbg (show k + 1 ≤ q by omega)]
                have e1 : Zbw (killL [(902, 0, 0)]) (blkO ((mapB (Zbb out) l k).getD q default) (sel (Nat.blt q k) (inss (Zbb out (l.getD q default)).ins) (sel (Nat.beq q k) .any (ownI i l q)))) = blkO (l.getD q default) (ownI i l q) := by
                  rw [Zdf hql, if_neg h1, Zbg (show k ≤ q by omega), Zez e]; rfl
                show GVs _ _ _ (Zbw (killL [(902, 0, 0)]) (blkO ((mapB (Zbb out) l k).getD q default) (sel (Nat.blt q k) (inss (Zbb out (l.getD q default)).ins) (sel (Nat.beq q k) .any (ownI i l q))))) _
                rw [e1]
                exact Zex (.rs (b := insR (l.getD q default).ins) (show Zbu fs (pI i) (rI i (k + 1)) (1001, i, q) = _ from by rw [Zbq hlt (by rw [hlb]; exact hql) (Zdo.2 (.inr ⟨rfl, by omega⟩)), hlb]) rfl rfl rfl)
          · refine keepFG (k := k + 1) (Nat.le_refl _) (fun p hp h2 => ?_) (fun p q hp hq h2 => ?_) (fun _ _ => ⟨rfl, rfl⟩) (fun _ _ => ⟨rfl, rfl⟩)
            · show Option.map (mapKB [(902, 0, 0)]) (Zbu fs (pI i) (rI i (k + 1)) (1000, p, 0)) = _
              rw [Zcd hp (by unfold pI; rw [Nat.blt_eq]; exact h2)]
              exact congrArg some (kill_blkR p _)
            · show Option.map (mapKB [(902, 0, 0)]) (Zbu fs (pI i) (rI i (k + 1)) (1001, p, q)) = _
              rw [Zbq hp hq h2]; rfl
        · exfalso
          cases hb
    · have hkl : k = l.length := by simp only [decide_eq_false_iff_not] at hb; omega
      clear hb
      subst hkl
      refine ⟨i + 1, hlt, by omega, ?_⟩
      refine Weak.fam [] rfl (fun i hi => by cases hi) ?_ ?_ ?_ (fun i hi => by cases hi)
      · (repeat' first | exact TLg.nil | refine TLg.cons (GV.imm rfl) ?_ | refine TLg.cons (GV.bp rfl rfl) ?_ | refine TLg.cons (GV.rs rfl rfl ?_ ?_) ?_ | refine TLg.cons (GV.int ?_) ?_)
        all_goals first | rfl | exact Zak (by omega) (by omega)
      · refine .old rfl rfl (GB.one (.cons (.rs rfl rfl rfl rfl) .nil) (fun e => by cases e)) (.old rfl rfl (GB.one (GVs.imm rfl) (fun _ => rfl)) (.old rfl rfl (GB.row (Nat.le_refl _) (fun q hq => .cons (.imm rfl) (.cons (.imm rfl) (.cons ?_ .nil))) (fun e => by cases e)) .nil))
        by_cases h1 : q < i
        · exact .cc (Za8 h1) (Za8 (Nat.lt_succ_of_lt h1)) (.imm rfl)
        · by_cases h2 : q = i
          · subst h2
            refine .cc (x' := .rs (901, 0, 0) 14 0 l.length) (y' := Zbt (mapB (Zbb out) l l.length)) ((Zbg (Nat.le_refl _)).trans Zdn) ((Za8 (Nat.lt_succ_self q)).trans (by rw [hlb]))
              (.frz (hd_of rfl (treeG_hd (fun a b => ⟨(fun e => by have e' := Option.some.inj e; cases e'), fun e => by have e' := Option.some.inj e; cases e'⟩))) (imm := false) (k := l.length) rfl (Nat.le_of_eq (Nat.zero_add _)) (mapB_len _ _).symm (fun x hx => ?_) (fun _ _ => rfl))
            rw [Nat.zero_add]
            show GVs _ _ _ (blkO _ (sel (Nat.blt x l.length) _ _)) (Za5 ((mapB (Zbb out) l l.length).getD x default))
            rw [Za8 hx, Zdf hx, if_pos hx]
            exact GVs.imm rfl
          · exact .cc ((Zbg (Nat.le_of_not_lt h1)).trans (Zez h2)) (Zbg (show i + 1 ≤ q by omega)) (.rs (show Zbu fs (pO (i + 1)) (rO (i + 1)) (1000, q, 0) = _ from Zcd hq (by unfold pO; rw [Nat.ble_eq]; omega)) rfl rfl rfl)
      · intro j b e
        rcases Zc7 e with ⟨p, rfl, hp, h2, rfl⟩ | ⟨p, q, rfl, hp, hq, h2, rfl⟩
        · have h2' : i < p := by unfold pO at h2; rw [Nat.ble_eq] at h2; omega
          exact HOk.mk rfl (show Zbu fs (pI i) (rI i l.length) (1000, p, 0) = _ from Zcd hp (by unfold pI; rw [Nat.blt_eq]; exact h2')) (Zdk (fun q hq => .cc (Za8 hq) (Za8 hq) (.rs (show Zbu fs (pO (i + 1)) (rO (i + 1)) (1001, p, q) = _ from Zbq hp hq (by unfold rO; rw [Nat.ble_eq]; omega)) rfl rfl rfl)))
        · have h2' : i < p := by unfold rO at h2; rw [Nat.ble_eq] at h2; omega
          exact HOk.mk rfl (show Zbu fs (pI i) (rI i l.length) (1001, p, q) = _ from Zbq hp hq (Zdo.2 (.inl h2'))) (Zd4 _)
  · have hil : i = fs.length := by simp only [decide_eq_false_iff_not] at hb; omega
    clear hb
    subst hil
    refine ⟨_, rfl, Rel.tup (.cons (Rel.agg (.cons ?_ .nil)) (.cons (Rel.int (by simp [errM, hr])) .nil))⟩
    have hcm : Zcq ⟨fs⟩ = ⟨fs.map fun f => { f with blocks := f.blocks.map (Zbb out) }⟩ := by
      unfold Zcq doneM; rw [if_pos hr, hout]; rfl
    rw [hcm]
    show Rel _ _ (.sl 3 (fs.map fun f => { f with blocks := f.blocks.map (Zbb out) }).length _)
    rw [List.length_map]
    refine Rel.rs (imm := false) (k := fs.length) (f := fun j => [iv (fs.getD j default).params, iv (fs.getD j default).regs, sel (Nat.blt j fs.length) (Zbt (mapB (Zbb out) (fs.getD j default).blocks (fs.getD j default).blocks.length)) (mem1 fs j)]) rfl (Nat.le_of_eq (Nat.zero_add _)) (fun j hj => ?_)
    rw [Nat.zero_add, Za8 hj, mapB_all]
    have e1 : (fs.map fun f => { f with blocks := f.blocks.map (Zbb out) }).getD j default = { fs.getD j default with blocks := (fs.getD j default).blocks.map (Zbb out) } := by
      rw [List.getD_eq_getElem?_getD, List.getElem?_map, List.getD_eq_getElem?_getD, List.getElem?_eq_getElem hj]; rfl
    rw [e1]
    exact Rels.imm rfl
end Go.Proofs.YtoelbgjpmpoolaaGreat
namespace Go.Proofs.YtoelbgjpmpoolaaGreat
open Go Dv
set_option maxRecDepth 10000
set_option linter.unusedSimpArgs false
theorem end4 {m : Zam} {f : Func} {b : Zbe} (h : blkB m f b = true) (hk : b.fin.kind = 4) : inn b.fin.dst f.regs = true ∧ Zeh m f b.fin.f b.fin.args = true ∧ goalB f b.fin.to = true := by
  unfold blkB at h; rw [Bool.and_eq_true, decide_eq_true_eq] at h
  rcases h.1.2.2 with e | e | e | e | e
  · omega
  · omega
  · omega
  · exact ⟨e.2.2.1, e.2.2.2.1, e.2.2.2.2.1⟩
  · omega
theorem calm_land (O : List Bool) (b : Zbe) : (Zbb O b).landing = b.landing := by unfold Zbb; split <;> rfl
theorem calm_pad (O : List Bool) (b : Zbe) : (Zbb O b).pad = b.pad := by unfold Zbb; split <;> rfl
theorem calm_blk {m : Zam} {f : Func} {b : Zbe} (O : List Bool) (h : blkB m f b = true) : blkB m f (Zbb O b) = true := by
  unfold Zbb
  split
  · rename_i hp
    have hc := Zd3.1 hp
    obtain ⟨e1, e2, e3⟩ := end4 h hc.1
    unfold blkB at h ⊢
    rw [Bool.and_eq_true, decide_eq_true_eq, List.all_eq_true] at h ⊢
    refine ⟨⟨by simp; omega, h.1.2.1, ?_⟩, fun x hx => ?_⟩
    · exact .inr (.inl ⟨rfl, rfl, rfl, rfl, rfl, rfl, e3, rfl⟩)
    · rcases List.mem_append.1 hx with hx | hx
      · exact h.2 x hx
      · rw [List.mem_singleton.1 hx, decide_eq_true_eq]
        exact .inr (.inr (.inr (.inr (.inl ⟨rfl, e1, rfl, rfl, rfl, e2⟩))))
  · exact h
theorem calm_eq {m : Zam} (hr : Za6 m = true) : Zcq m = Zbm (Zbb (outL m)) m := by unfold Zcq doneM; rw [if_pos hr]
theorem right_calm {m : Zam} (hr : Za6 m = true) : Za6 (Zcq m) = true := by
  rw [calm_eq hr]
  exact right_pass hr (fun f b _ hb => ⟨calm_land _ b, calm_blk _ hb⟩)
theorem rule_mono (m : Zam) : MonoD (Zd0 outB m) := fun n a b h k => by
  unfold Zd0 at k ⊢
  rw [List.any_eq_true] at k ⊢
  obtain ⟨x, hx, hk⟩ := k
  exact ⟨x, hx, outB_mono _ _ _ _ h hk⟩
theorem out_lfp {m : Zam} (hr : Za6 m = true) : outL m = lfp m.funcs.length (Zd0 outB m) := by unfold outL spreadL; rw [if_pos hr]
theorem out_closed {m : Zam} (hr : Za6 m = true) : Closed m.funcs.length (Zd0 outB m) (outL m) := by rw [out_lfp hr]; exact (lfp_ok (rule_mono m)).1
theorem out_least {m : Zam} (hr : Za6 m = true) : Zd9 m.funcs.length (Zd0 outB m) (outL m) := by rw [out_lfp hr]; exact (lfp_ok (rule_mono m)).2
theorem calls_app (l : List Ins) (x : Ins) (is : List Bool) : ((l ++ [x]).any fun y => bif decide (y.op = 11) then isAt is y.f else false) = ((l.any fun y => bif decide (y.op = 11) then isAt is y.f else false) || bif decide (x.op = 11) then isAt is x.f else false) := by
  rw [List.any_append]; simp
theorem outB_pad {f f' : Func} {b : Zbe} (hp : ∀ i, ((f'.blocks.getD i default).pad = (f.blocks.getD i default).pad)) (is : List Bool) : outB f' b is = outB f b is := by unfold outB; rw [hp]
theorem pad_pass {O : List Bool} (l : List Zbe) (i : Nat) : ((l.map (Zbb O)).getD i default).pad = (l.getD i default).pad := by
  by_cases h : i < l.length
  · rw [map_getD h]; exact calm_pad _ _
  · rw [map_out h]
theorem calm_outB {f : Func} {b : Zbe} {O N : List Bool} (hN : leL N O) : outB { f with blocks := f.blocks.map (Zbb O) } (Zbb O b) N = outB f b N := by
  rw [outB_pad (f := f) (fun i => pad_pass _ i)]
  unfold Zbb
  split
  · rename_i hp
    have hc := Zd3.1 hp
    have hn : isAt N b.fin.f = false := by
      cases e : isAt N b.fin.f with
      | false => rfl
      | true => have := hN _ e; unfold isAt at hc; rw [hc.2.1] at this; cases this
    unfold outB callsB
    show (decide ((2 : Int) = 5) || (decide ((2 : Int) = 6) || ((bif decide ((2 : Int) = 4) then _ else false) || ((b.ins ++ [calmI b]).any _)))) = _
    rw [calls_app, hc.1]
    rw [show (bif decide ((calmI b).op = 11) then isAt N (calmI b).f else false) = false from by show (bif decide ((11 : Int) = 11) then isAt N b.fin.f else false) = false; rw [hn]; rfl, hn]
    simp
  · rfl
theorem rule_calm {m : Zam} {N : List Bool} (hr : Za6 m = true) (hN : leL N (outL m)) {k : Nat} (hk : k < m.funcs.length) : Zd0 outB (Zcq m) k N = Zd0 outB m k N := by
  rw [calm_eq hr]
  unfold Zd0
  rw [pass_at hk]
  show ((m.funcs.getD k default).blocks.map _).any _ = _
  rw [List.any_map]
  congr 1
  funext b
  exact calm_outB hN
theorem calm_len {m : Zam} (hr : Za6 m = true) : (Zcq m).funcs.length = m.funcs.length := by rw [calm_eq hr]; exact pass_len m
theorem out_calm {m : Zam} (hr : Za6 m = true) : outL (Zcq m) = outL m := by
  have hn := right_calm hr
  have c1 := out_closed hr
  have b1 := out_least hr
  have c2 := out_closed hn
  have b2 := out_least hn
  rw [calm_len hr] at c2 b2
  have le1 : leL (outL (Zcq m)) (outL m) := b2 _ ⟨c1.sz, fun k hk h => c1.cl k hk (by rwa [rule_calm hr (leL.refl _) hk] at h)⟩
  have le2 : leL (outL m) (outL (Zcq m)) := b1 _ ⟨c2.sz, fun k hk h => c2.cl k hk (by rw [rule_calm hr le1 hk]; exact h)⟩
  refine Zbk false (by rw [c1.sz, c2.sz]) (fun i _ => ?_)
  rw [Bool.eq_iff_iff]
  exact ⟨le1 i, le2 i⟩
theorem calmP_calm (O : List Bool) (b : Zbe) : Zd8 O (Zbb O b) = false := by
  unfold Zbb
  split
  · unfold Zd8; rw [decide_eq_false_iff_not]; rintro ⟨h, _⟩; revert h; show ¬ (2 : Int) = 4; decide
  · rename_i h; simpa using h
theorem calm_again {m : Zam} (hr : Za6 m = true) : Zcq (Zcq m) = Zcq m := by
  rw [calm_eq (right_calm hr), out_calm hr, calm_eq hr]
  unfold Zbm
  congr 1
  rw [List.map_map]
  refine List.map_congr_left (fun f _ => ?_)
  show ({ f with blocks := (f.blocks.map _).map _ } : Func) = { f with blocks := f.blocks.map _ }
  congr 1
  rw [List.map_map]
  refine List.map_congr_left (fun b _ => ?_)
  show Zbb (outL m) (Zbb (outL m) b) = _
  rw [show ∀ c, Zbb (outL m) c = if Zd8 (outL m) c = true then _ else c from fun c => rfl, calmP_calm]
  simp
theorem calm_left {m : Zam} (hr : Za6 m = true) {i k : Nat} (hi : i < (Zcq m).funcs.length) (hk : k < ((Zcq m).funcs.getD i default).blocks.length) (h4 : (((Zcq m).funcs.getD i default).blocks.getD k default).fin.kind = 4)
    (ho : isAt (outL (Zcq m)) (((Zcq m).funcs.getD i default).blocks.getD k default).fin.f = false) : 64 ≤ (((Zcq m).funcs.getD i default).blocks.getD k default).ins.length := by
  rw [out_calm hr] at ho
  rw [calm_len hr] at hi
  have e : ((Zcq m).funcs.getD i default) = { m.funcs.getD i default with blocks := (m.funcs.getD i default).blocks.map (Zbb (outL m)) } := by rw [calm_eq hr]; exact pass_at hi
  rw [e] at hk h4 ho ⊢
  have hk' : k < (m.funcs.getD i default).blocks.length := by simpa using hk
  simp only at hk h4 ho ⊢
  rw [map_getD hk'] at h4 ho ⊢
  have := calmP_calm (outL m) ((m.funcs.getD i default).blocks.getD k default)
  unfold Zd8 at this
  rw [decide_eq_false_iff_not] at this
  refine Classical.byContradiction fun hc => this ⟨h4, ho, by omega⟩
end Go.Proofs.YtoelbgjpmpoolaaGreat
namespace Go.Proofs.YtoelbgjpmpoolaaGreat
open Go Dv
set_option maxRecDepth 10000
set_option linter.unusedSimpArgs false
theorem ins_pass {B : Zbe → Zbe} {m : Zam} {s : Mach} {f : Za9} {x : Ins} (h : x.op = 11 → 0 ≤ x.f ∧ x.f < m.funcs.length) : insM (Zbm B m) s f x = insM m s f x := by
  unfold insM
  by_cases h11 : x.op = 11
  · rw [if_pos h11, if_pos h11]
    exact called_pass (h h11).1 (h h11).2
  · rw [if_neg h11, if_neg h11]
theorem topF_with {s : Mach} {f : Za9} (h : 0 < s.stack.length) : topF (Zb6 s f) = f := by
  have hl : (Zb6 s f).stack.length = s.stack.length := by simp [Zb6]; omega
  unfold topF
  rw [hl]
  show (s.stack.take (s.stack.length - 1) ++ [f]).getD (s.stack.length - 1) default = f
  rw [getD_app, List.length_take, if_neg (by omega), if_pos (by omega)]
theorem with_with {s : Mach} {f g : Za9} (h : 0 < s.stack.length) : Zb6 (Zb6 s f) g = Zb6 s g := by
  have hl : (Zb6 s f).stack.length = s.stack.length := by simp [Zb6]; omega
  unfold Zb6 at hl ⊢
  simp only at hl ⊢
  rw [hl, List.take_append_of_le_length (by simp), List.take_take, Nat.min_self]
section
variable {m : Zam} {O : List Bool}
theorem calmB_no {b : Zbe} (h : Zd8 O b = false) : Zbb O b = b := by unfold Zbb; rw [if_neg (by rw [h]; simp)]
theorem calmB_yes {b : Zbe} (h : Zd8 O b = true) : Zbb O b = { b with ins := b.ins ++ [calmI b], fin := ⟨2, 0, 0, 0, [], b.fin.to, 0, 0⟩ } := by unfold Zbb; rw [if_pos h]
theorem calm_mid {f : Za9} (h : OkF m f) (he : endB m f = false) : endB (Zbm (Zbb O) m) f = false ∧ Zd2 (Zbm (Zbb O) m) f = Zd2 m f := by
  have h1 : ¬ f.at_ = (Za2 m f).ins.length := by unfold endB at he; simpa using he
  have h2 := h.a0
  have h3 := h.a1
  unfold endB Zd2
  rw [Zfl h]
  cases hp : Zd8 O (Za2 m f) with
  | false => rw [calmB_no hp]; exact ⟨decide_eq_false h1, rfl⟩
  | true =>
    rw [calmB_yes hp]
    simp only
    refine ⟨decide_eq_false (by simp; omega), ?_⟩
    simp [List.getD_eq_getElem?_getD, List.getElem?_append_left (show f.at_.toNat < (Za2 m f).ins.length by omega)]
theorem calm_last {f : Za9} (h : OkF m f) (he : endB m f = true) (hp : Zd8 O (Za2 m f) = true) : endB (Zbm (Zbb O) m) f = false ∧ Zd2 (Zbm (Zbb O) m) f = calmI (Za2 m f) := by
  have h1 : f.at_ = (Za2 m f).ins.length := by unfold endB at he; simpa using he
  unfold endB Zd2
  rw [Zfl h, calmB_yes hp]
  simp only
  refine ⟨decide_eq_false (by simp; omega), ?_⟩
  rw [h1]
  simp [List.getD_eq_getElem?_getD]
theorem calm_end {f : Za9} (h : OkF m f) (he : endB m f = true) (hp : Zd8 O (Za2 m f) = false) : endB (Zbm (Zbb O) m) f = true ∧ Za2 (Zbm (Zbb O) m) f = Za2 m f := by
  unfold endB at he ⊢
  rw [Zfl h, calmB_no hp]
  exact ⟨he, rfl⟩
theorem calm_answered (hr : Za6 m = true) {s : Mach} (hs : OkM m s) (hd : s.done = 0) (w : Int) :
    Zbn (Zbm (Zbb O) m) s w = Zbn m s w ∨ Zdl (Zbm (Zbb O) m) (Zbn (Zbm (Zbb O) m) s w) = Zbn m s w := by
  have hl := hs.pos hd
  by_cases h1 : s.stack.length = 1
  · refine .inl ?_
    unfold Zbn; rw [if_pos h1, if_pos h1]
  · obtain ⟨hF, hC⟩ := pop_top hs (by omega)
    have e1 : Zbn m s w = Zb6 (popM s) (answF m (topF (popM s)) w) := if_neg h1
    have e2 : Zbn (Zbm (Zbb O) m) s w = Zb6 (popM s) (answF (Zbm (Zbb O) m) (topF (popM s)) w) := if_neg h1
    rw [e1, e2]
    have hp0 : 0 < (popM s).stack.length := by rw [Zdd]; omega
    generalize topF (popM s) = g at hF hC
    by_cases he : endB m g = true
    · cases hp : Zd8 O (Za2 m g) with
      | false =>
        refine .inl ?_
        obtain ⟨k1, k2⟩ := calm_end hF he hp
        congr 1
        unfold answF; rw [if_pos he, if_pos k1, k2]
      | true =>
        refine .inr ?_
        obtain ⟨k1, k2⟩ := calm_last hF he hp
        have hk := (Zd3.1 hp).1
        have ea : answF (Zbm (Zbb O) m) g w = { frW g (Za2 m g).fin.dst w with at_ := g.at_ + 1 } := by
          unfold answF
          rw [if_neg (by rw [k1]; simp)]
          show { frW g (Zd2 (Zbm (Zbb O) m) g).dst w with at_ := g.at_ + 1 } = _
          rw [k2]; rfl
        have eb : answF m g w = { frW g (Za2 m g).fin.dst w with block := (Za2 m g).fin.to, at_ := 0 } := by unfold answF; rw [if_pos he]
        rw [ea, eb]
        generalize hg' : ({ frW g (Za2 m g).fin.dst w with at_ := g.at_ + 1 } : Za9) = g'
        have hblk : Za2 (Zbm (Zbb O) m) g' = { Za2 m g with ins := (Za2 m g).ins ++ [calmI (Za2 m g)], fin := ⟨2, 0, 0, 0, [], (Za2 m g).fin.to, 0, 0⟩ } := by
          rw [← hg']
          show Za2 (Zbm (Zbb O) m) g = _
          rw [Zfl hF, calmB_yes hp]
        have hat : g'.at_ = (Za2 m g).ins.length + 1 := by
          rw [← hg']; show g.at_ + 1 = _
          have : g.at_ = (Za2 m g).ins.length := by unfold endB at he; simpa using he
          omega
        have hend : endB (Zbm (Zbb O) m) g' = true := by
          unfold endB; rw [hblk]; exact decide_eq_true (by simp; omega)
        rw [show Zdl (Zbm (Zbb O) m) (Zb6 (popM s) g') = Zd6 (Zbm (Zbb O) m) (Zb6 (popM s) g') (topF (Zb6 (popM s) g')) (Za2 (Zbm (Zbb O) m) (topF (Zb6 (popM s) g'))) from if_pos hd, topF_with hp0]
        unfold Zd6
        rw [if_neg (by rw [hend]; simp), hblk]
        simp only
        rw [if_neg (by decide), if_neg (by decide), if_neg (by decide), if_neg (by decide), with_with hp0]
        congr 1
        rw [← hg']
        rfl
    · have he : endB m g = false := by simpa using he
      refine .inl ?_
      obtain ⟨k1, k2⟩ := calm_mid (O := O) hF he
      congr 1
      unfold answF
      rw [if_neg (show ¬ endB (Zbm (Zbb O) m) g = true by rw [k1]; simp), if_neg (show ¬ endB m g = true by rw [he]; simp)]
      show { frW g (Zd2 (Zbm (Zbb O) m) g).dst w with at_ := g.at_ + 1 } = { frW g (Zd2 m g).dst w with at_ := g.at_ + 1 }
      rw [k2]
theorem any_iff {p : Nat → Bool} {n : Nat} : (List.range n).any p = true ↔ ∃ i, i < n ∧ p i = true := by
  rw [List.any_eq_true]
  constructor
  · rintro ⟨i, hi, e⟩; exact ⟨i, List.mem_range.1 hi, e⟩
  · rintro ⟨i, hi, e⟩; exact ⟨i, List.mem_range.2 hi, e⟩
theorem downK_max {p : Nat → Bool} : ∀ {n i : Nat}, Zdj p n < i → i ≤ n → p i = false
  | 0, i, h1, h2 => by have : Zdj p 0 = 0 := rfl
                       omega
  | n + 1, i, h1, h2 => by
      by_cases hp : p (n + 1) = true
      · rw [downK_yes hp] at h1; omega
      · have e : Zdj p (n + 1) = Zdj p n := by show (if p (n + 1) = true then n + 1 else Zdj p n) = _; rw [if_neg hp]
        rw [e] at h1
        rcases Nat.lt_or_ge n i with h3 | h3
        · have : i = n + 1 := by omega
          subst this; simpa using hp
        · exact downK_max h1 h3
theorem downK_is {p : Nat → Bool} {K : Nat} : ∀ {n : Nat}, K ≤ n → p K = true → (∀ i, K < i → i ≤ n → p i = false) → Zdj p n = K
  | 0, h1, _, _ => by have : Zdj p 0 = 0 := rfl
                      omega
  | n + 1, h1, h2, h3 => by
      by_cases e : K = n + 1
      · subst e; exact downK_yes h2
      · have hp := h3 (n + 1) (by omega) (Nat.le_refl _)
        have e : Zdj p (n + 1) = Zdj p n := by show (if p (n + 1) = true then n + 1 else Zdj p n) = _; rw [if_neg (by rw [hp]; simp)]
        rw [e]
        exact downK_is (by omega) h2 (fun i a b => h3 i a (by omega))
theorem calm_sound (hr : Za6 m = true) {s : Mach} (hs : OkM m s) (hk : Zfo m s.stack) (hl : 0 < s.stack.length) (ht : isAt (outL m) (topF s).f = true) (w : Int) :
    ∀ j i, i + j + 1 = s.stack.length → (∃ k, i ≤ k ∧ k + 1 < s.stack.length ∧ Zbl m s.stack w false k = true ∧ (endB m (s.stack.getD k default) = true ∧ Zd8 (outL m) (Za2 m (s.stack.getD k default)) = false)) ∨ isAt (outL m) (s.stack.getD i default).f = true
  | 0, i, h => .inr (by have : s.stack.getD i default = topF s := by unfold topF; congr 1; omega
                        rw [this]; exact ht)
  | j + 1, i, h => by
      rcases calm_sound hr hs hk hl ht w j (i + 1) (by omega) with ⟨k, a, b⟩ | h2
      · exact .inl ⟨k, by omega, b⟩
      · have hF := hs.fr _ (Zb4 (default : Za9) (show i < s.stack.length by omega))
        have hC := hs.ca _ (top_take (show i + 1 < s.stack.length by omega))
        have hL := hk i (by omega)
        have hcl := out_closed hr
        generalize hf : s.stack.getD i default = f at hF hC hL
        rw [← hL] at h2
        have f0 := hF.f0
        have f1 := hF.f1
        have b0 := hF.b0
        have b1 := hF.b1
        have hin : ∀ {P : Prop}, (outB (Zcp m f) (Za2 m f) (outL m) = true → P) → (isAt (outL m) f.f = true → P) → True := fun _ _ => trivial
        have hout : outB (Zcp m f) (Za2 m f) (outL m) = true → isAt (outL m) f.f = true := fun h => hcl.cl f.f.toNat (by omega) (by
          unfold Zd0
          rw [List.any_eq_true]
          exact ⟨Za2 m f, Zb4 (default : Zbe) (show f.block.toNat < (Zcp m f).blocks.length by omega), h⟩)
        by_cases he : endB m f = true
        · have h4 := hC.fin he
          have hcal : Ze3 m f = (Za2 m f).fin.f := by unfold Ze3; rw [if_pos he]
          rw [hcal] at h2
          have hnp : Zd8 (outL m) (Za2 m f) = false := by
            unfold Zd8; rw [decide_eq_false_iff_not]; rintro ⟨_, h, _⟩; rw [h2] at h; cases h
          by_cases hall : (padF m f).all = true
          · refine .inl ⟨i, Nat.le_refl _, by omega, ?_, by rw [hf]; exact he, by rw [hf]; exact hnp⟩
            unfold Zbl Zfj catchF
            rw [hf, he, decide_eq_true h4, hall]
            simp
          · refine .inr (hout ?_)
            unfold outB
            rw [decide_eq_true h4, h2, show ((Zcp m f).blocks.getD (Za2 m f).fin.pad.toNat default).pad.all = false from by simpa [padF] using hall]
            simp
        · have he : endB m f = false := by simpa using he
          have h11 := hC.ins he
          have hcal : Ze3 m f = (Zd2 m f).f := by unfold Ze3; rw [if_neg (by rw [he]; simp)]
          rw [hcal] at h2
          refine .inr (hout ?_)
          have hlt := (okF_ins hr hF he).1
          unfold outB callsB
          rw [show ((Za2 m f).ins.any fun x => bif decide (x.op = 11) then isAt (outL m) x.f else false) = true from List.any_eq_true.2 ⟨Zd2 m f, Zb4 (default : Ins) hlt, by rw [decide_eq_true h11, cond_true]; exact h2⟩]
          simp
theorem calm_thrown (hr : Za6 m = true) {s : Mach} (hs : OkM m s) (hk : Zfo m s.stack) (hl : 0 < s.stack.length) (ht : isAt (outL m) (topF s).f = true) (w : Int) :
    Zb7 (Zbm (Zbb (outL m)) m) s w = Zb7 m s w := by
  have hpl := Zdd (s := s)
  have e1 : ∀ i, i < (popM s).stack.length → (popM s).stack.getD i default = s.stack.getD i default := fun i hi => Zb2 _ (by omega)
  have hF : ∀ i, i < (popM s).stack.length → OkF m (s.stack.getD i default) := fun i hi => hs.fr _ (Zb4 _ (by omega))
  have hC : ∀ i, i < (popM s).stack.length → CallF m (s.stack.getD i default) := fun i hi => hs.ca _ (top_take (by omega))
  have hne : ∀ i, i < (popM s).stack.length → (endB m (s.stack.getD i default) = true ∧ Zd8 (outL m) (Za2 m (s.stack.getD i default)) = true ∧ ∀ c, Zbl (Zbm (Zbb (outL m)) m) (popM s).stack w c i = false) ∨ ∀ c, Zbl (Zbm (Zbb (outL m)) m) (popM s).stack w c i = Zbl m (popM s).stack w c i := fun i hi => by
    have hFi := hF i hi
    unfold Zbl
    rw [e1 i hi]
    generalize s.stack.getD i default = f at hFi
    by_cases he : endB m f = true
    · cases hp : Zd8 (outL m) (Za2 m f) with
      | true =>
        refine .inl ⟨he, rfl, fun c => ?_⟩
        unfold Zfj; rw [(calm_last hFi he hp).1]; rfl
      | false =>
        refine .inr (fun c => ?_)
        obtain ⟨k1, k2⟩ := calm_end hFi he hp
        have hpe : padF (Zbm (Zbb (outL m)) m) f = padF m f := by
          unfold padF; rw [k2, funOf_pass hFi]; exact pad_pass _ _
        unfold Zfj; rw [k1, k2, he, hpe]
    · have he : endB m f = false := by simpa using he
      refine .inr (fun c => ?_)
      unfold Zfj; rw [(calm_mid hFi he).1, he]; rfl
  have habove : ∀ i, i < (popM s).stack.length → endB m (s.stack.getD i default) = true → Zd8 (outL m) (Za2 m (s.stack.getD i default)) = true → ∃ k, i < k ∧ k < (popM s).stack.length ∧ Zbl m (popM s).stack w false k = true ∧ ∀ c, Zbl (Zbm (Zbb (outL m)) m) (popM s).stack w c k = Zbl m (popM s).stack w c k := fun i hi he hp => by
    rcases calm_sound hr hs hk hl ht w (s.stack.length - (i + 1) - 1) (i + 1) (by omega) with ⟨k, a, b, c, d1, d2⟩ | h2
    · refine ⟨k, by omega, by omega, ?_, ?_⟩
      · unfold Zbl at c ⊢; rw [e1 k (by omega)]; exact c
      · rcases hne k (by omega) with ⟨_, h, _⟩ | h
        · rw [d2] at h; cases h
        · exact h
    · exfalso
      have hL := hk i (by omega)
      unfold Ze3 at hL
      rw [if_pos he] at hL
      rw [← hL] at h2
      have := (Zd3.1 hp).2.1
      rw [h2] at this; cases this
  have hany : (List.range (popM s).stack.length).any (Zbl (Zbm (Zbb (outL m)) m) (popM s).stack w false) = (List.range (popM s).stack.length).any (Zbl m (popM s).stack w false) := by
    rw [Bool.eq_iff_iff, any_iff, any_iff]
    constructor
    · rintro ⟨i, hi, e⟩
      rcases hne i hi with ⟨_, _, h⟩ | h
      · rw [h] at e; cases e
      · exact ⟨i, hi, by rw [← h]; exact e⟩
    · rintro ⟨i, hi, e⟩
      rcases hne i hi with ⟨h1, h2, _⟩ | h
      · obtain ⟨k, _, a, b, c⟩ := habove i hi h1 h2
        exact ⟨k, a, by rw [c]; exact b⟩
      · exact ⟨i, hi, by rw [h]; exact e⟩
  unfold Zb7
  dsimp only
  rw [hany]
  split
  · rename_i hY
    obtain ⟨i, hi, hic⟩ := any_iff.1 hY
    have hK := Zfg (p := Zbl m (popM s).stack w true) (n := (popM s).stack.length - 1) ⟨i, by omega, Zfi hic⟩
    have hKm : ∀ i, Zdj (Zbl m (popM s).stack w true) ((popM s).stack.length - 1) < i → i ≤ (popM s).stack.length - 1 → Zbl m (popM s).stack w true i = false := fun i a b => downK_max a b
    generalize hKe : Zdj (Zbl m (popM s).stack w true) ((popM s).stack.length - 1) = K at hK hKm
    have hKl : K < (popM s).stack.length := by omega
    have hsame : ∀ c, Zbl (Zbm (Zbb (outL m)) m) (popM s).stack w c K = Zbl m (popM s).stack w c K := by
      rcases hne K hKl with ⟨h1, h2, _⟩ | h
      · obtain ⟨k, a, b, c, _⟩ := habove K hKl h1 h2
        have := hKm k a (by omega)
        rw [show Zbl m (popM s).stack w true k = true from Zfi c] at this; cases this
      · exact h
    have hD : Zdj (Zbl (Zbm (Zbb (outL m)) m) (popM s).stack w true) ((popM s).stack.length - 1) = K := by
      refine downK_is (by omega) (by rw [hsame]; exact hK.1) (fun i a b => ?_)
      rcases hne i (by omega) with ⟨_, _, h⟩ | h
      · exact h true
      · rw [h]; exact hKm i a b
    rw [hD]
    congr 1
    have hFK := hF K hKl
    have hKn := hK.1
    rw [← hsame] at hKn
    unfold Zbl at hKn
    rw [e1 K hKl] at hKn ⊢
    generalize s.stack.getD K default = f at hFK hKn
    have hcn : endB (Zbm (Zbb (outL m)) m) f = true ∧ (Za2 (Zbm (Zbb (outL m)) m) f).fin.kind = 4 := by
      unfold Zfj at hKn
      simp only [Bool.and_eq_true, decide_eq_true_eq] at hKn
      exact ⟨hKn.1, hKn.2.1⟩
    have hblk : Za2 (Zbm (Zbb (outL m)) m) f = Za2 m f := by
      have := hcn.2
      rw [Zfl hFK] at this ⊢
      cases hp : Zd8 (outL m) (Za2 m f) with
      | false => exact calmB_no hp
      | true => rw [calmB_yes hp] at this; exact absurd this (show ¬ (2 : Int) = 4 by decide)
    rw [hblk]
    unfold landF
    congr 2
    have : (padOf (Zbm (Zbb (outL m)) m) f (Za2 m f).fin.pad).pad = (padOf m f (Za2 m f).fin.pad).pad := by
      show ((Zcp (Zbm (Zbb (outL m)) m) f).blocks.getD _ default).pad = ((Zcp m f).blocks.getD _ default).pad
      rw [funOf_pass hFK]; exact pad_pass _ _
    rw [this]
  · rfl
theorem calm_step (hr : Za6 m = true) {s : Mach} (hs : OkM m s) (hk : Zfo m s.stack) (hd : s.done = 0) :
    Zdl (Zbm (Zbb (outL m)) m) s = Zdl m s ∨ Zdl (Zbm (Zbb (outL m)) m) (Zdl (Zbm (Zbb (outL m)) m) s) = Zdl m s := by
  have hl := hs.pos hd
  have hF := hs.fr _ (top_mem hl)
  have e1 : Zdl m s = Zd6 m s (topF s) (Za2 m (topF s)) := if_pos hd
  have e2 : Zdl (Zbm (Zbb (outL m)) m) s = Zd6 (Zbm (Zbb (outL m)) m) s (topF s) (Za2 (Zbm (Zbb (outL m)) m) (topF s)) := if_pos hd
  by_cases he : endB m (topF s) = true
  · have hE := (Zfw hr hF).2
    cases hp : Zd8 (outL m) (Za2 m (topF s)) with
    | true =>
      refine .inl ?_
      obtain ⟨k1, k2⟩ := calm_last hF he hp
      have h4 := (Zd3.1 hp).1
      have hA : Zeh m (Zcp m (topF s)) (Za2 m (topF s)).fin.f (Za2 m (topF s)).fin.args = true := (end4 (okF_blk hr hF hF.b0 hF.b1) h4).2.1
      have hn := argsB_n hA
      rw [e1, e2]
      unfold Zd6
      rw [if_pos k1, if_neg (by rw [he]; simp), if_neg (by omega), if_pos h4]
      rw [show (Za2 (Zbm (Zbb (outL m)) m) (topF s)).ins.getD (topF s).at_.toNat default = calmI (Za2 m (topF s)) from k2]
      unfold insM
      rw [if_pos (show (calmI (Za2 m (topF s))).op = 11 from rfl)]
      exact called_pass hn.1.1 hn.1.2
    | false =>
      obtain ⟨k1, k2⟩ := calm_end hF he hp
      rw [e1, e2, k2]
      unfold Zd6
      rw [if_neg (show ¬ endB (Zbm (Zbb (outL m)) m) (topF s) = false by rw [k1]; simp), if_neg (show ¬ endB m (topF s) = false by rw [he]; simp)]
      by_cases h1 : (Za2 m (topF s)).fin.kind = 1
      · rw [if_pos h1, if_pos h1]
        exact calm_answered hr hs hd _
      rw [if_neg h1, if_neg h1]
      by_cases h4 : (Za2 m (topF s)).fin.kind = 4
      · rw [if_pos h4, if_pos h4]
        have hn := argsB_n (end4 (okF_blk hr hF hF.b0 hF.b1) h4).2.1
        exact .inl (called_pass hn.1.1 hn.1.2)
      rw [if_neg h4, if_neg h4]
      have hout : ((Za2 m (topF s)).fin.kind = 5 ∨ (Za2 m (topF s)).fin.kind = 6) → isAt (outL m) (topF s).f = true := fun hk56 => by
        have f0 := hF.f0
        have f1 := hF.f1
        have b0 := hF.b0
        have b1 := hF.b1
        refine (out_closed hr).cl (topF s).f.toNat (by omega) ?_
        unfold Zd0
        rw [List.any_eq_true]
        refine ⟨Za2 m (topF s), Zb4 (default : Zbe) (show (topF s).block.toNat < (Zcp m (topF s)).blocks.length by omega), ?_⟩
        unfold outB
        rcases hk56 with h | h <;> rw [h] <;> simp
      by_cases h5 : (Za2 m (topF s)).fin.kind = 5
      · rw [if_pos h5, if_pos h5]
        exact .inl (calm_thrown hr hs hk hl (hout (.inl h5)) _)
      rw [if_neg h5, if_neg h5]
      by_cases h6 : (Za2 m (topF s)).fin.kind = 6
      · rw [if_pos h6, if_pos h6]
        exact .inl (calm_thrown hr hs hk hl (hout (.inr h6)) _)
      rw [if_neg h6, if_neg h6]
      exact .inl rfl
  · have he : endB m (topF s) = false := by simpa using he
    refine .inl ?_
    obtain ⟨k1, k2⟩ := calm_mid (O := outL m) hF he
    rw [e1, e2]
    unfold Zd6
    rw [if_pos k1, if_pos he]
    show insM _ s (topF s) (Zd2 (Zbm (Zbb (outL m)) m) (topF s)) = insM m s (topF s) (Zd2 m (topF s))
    rw [k2]
    refine ins_pass (fun h11 => ?_)
    have hI := (okF_ins hr hF he).2
    rcases hI with h | h | h | h | h | h | h
    · omega
    · omega
    · omega
    · omega
    · exact (argsB_n h.2.2.2.2.2).1
    · omega
    · omega
theorem calm_alike (hr : Za6 m = true) {inputs : List Int} (hi : (∀ x ∈ inputs, 0 ≤ x ∧ x ≤ 65535) ∧ inputs.length < 1000000) (i : Nat) : ∃ j, j ≤ i * 2 ∧ TellA (runM m inputs i) (runM (Zcq m) inputs j) := by
  rw [calm_eq hr]
  obtain ⟨j, hj, hR⟩ := sim_of (a := m) (b := Zbm (Zbb (outL m)) m) (inputs := inputs) (k := 2) (R := fun s t => t = s) (by
    show (⟨[frN (Zbm (Zbb (outL m)) m) 0 []], _, _, _, _, _⟩ : Mach) = ⟨[frN m 0 []], _, _, _, _, _⟩
    rw [frN_pass (by omega) (by have := (right0 hr).1; omega)]) (fun i j hR hd => by
    rcases calm_step hr (okM_run hr hi i) (link_run hr hi i) hd with h | h
    · exact ⟨1, by omega, by show Zdl _ (runM _ inputs j) = _; rw [hR]; exact h⟩
    · exact ⟨2, by omega, by show Zdl _ (Zdl _ (runM _ inputs j)) = _; rw [hR]; exact h⟩) i
  exact ⟨j, hj, by rw [hR], by rw [hR], by rw [hR]⟩
end
end Go.Proofs.YtoelbgjpmpoolaaGreat
namespace Go.Proofs.YtoelbgjpmpoolaaGreat
open Go Dv
set_option maxRecDepth 10000
set_option linter.unusedSimpArgs false
theorem sum_take_succ {α : Type} (g : α → Nat) (d : α) {l : List α} {i : Nat} (h : i < l.length) : ((l.take (i + 1)).map g).sum = ((l.take i).map g).sum + g (l.getD i d) := by
  rw [Ze2 d h, List.map_append, List.sum_append]; simp
theorem sum_le {α : Type} (g : α → Nat) (c : Nat) : ∀ {l : List α}, (∀ x ∈ l, g x ≤ c) → (l.map g).sum ≤ c * l.length
  | [], _ => by simp
  | x :: r, h => by
      have h1 := sum_le g c (l := r) (fun y hy => h y (List.mem_cons_of_mem _ hy))
      have h2 := h x List.mem_cons_self
      simp only [List.map_cons, List.sum_cons, List.length_cons]
      rw [Nat.mul_succ]; omega
def kN (b : Zbe) : Nat := if b.fin.kind = 4 then 1 else 0
def manyF (f : Func) : Nat := (f.blocks.map kN).sum
def manyM (m : Zam) : Nat := (m.funcs.map manyF).sum
def SmallM (m : Zam) : Prop := m.funcs.length ≤ 20 ∧ ∀ i, i < m.funcs.length → (m.funcs.getD i default).blocks.length ≤ 70
theorem kN_sum (l : List Zbe) : (l.map kN).sum ≤ l.length := by
  have := sum_le kN 1 (l := l) (fun x _ => by unfold kN; split <;> omega)
  omega
theorem tot_le {m : Zam} (h : SmallM m) (i : Nat) : ((m.funcs.take i).map manyF).sum ≤ 1400 := by
  have h1 := sum_le manyF 70 (l := m.funcs.take i) (fun x hx => by
    obtain ⟨j, hj, rfl⟩ := List.getElem_of_mem (List.mem_of_mem_take hx)
    have h2 := h.2 j hj
    rw [Zbr default hj] at h2
    have := kN_sum m.funcs[j].blocks
    unfold manyF; omega)
  have : (m.funcs.take i).length ≤ 20 := by rw [List.length_take]; have := h.1; omega
  omega
set_option maxHeartbeats 1000000 in
theorem c_Many (m : Zam) (h : SmallM m) : FC Tryz.prog 47 [.agg (Zan m)] (iv (manyM m)) := by
  refine Zao tok Tryz.func47 rfl (by decide +kernel) (Nat.le_of_ble_eq_true rfl) ?_
  have hl0 := h.1
  (repeat' first | refine Zad ?_ | (refine Zab tok (by rfl) ?_; conv => whnf) | refine Zai ?_)
  refine Zau (fun i : Nat => mkS [(3, iv ((m.funcs.take i).map manyF).sum), (9, funcss m.funcs), (10, iv m.funcs.length), (11, iv i)] []) (fun i => i ≤ m.funcs.length) (fun i => m.funcs.length - i) 0 (Nat.zero_le _) ?_ ?_
  · refine Weak.list [] rfl (by rfl) ?_ .nil
    ((repeat' first | exact TLes.nil | refine TLes.cons (TLe.eq rfl) ?_); skip)
  intro i hi
  have ht := tot_le h i
  (repeat' ((fail_if_success (show AWp _ _ _ (Code.region 4 _ _) _ _)); first | refine Zad ?_ | (refine Zab tok (by rfl) ?_; conv => whnf) | refine Zai ?_ | (refine Zag ?_; conv => whnf) | (refine Zav ?_; conv => whnf) | (refine Zah ?_; conv => whnf) | refine Zaf rfl (fun hb => ?_) (fun hb => ?_)))
  · have hlt : i < m.funcs.length := by simp only [decide_eq_true_eq] at hb; omega
    clear hb
    have hss := sum_take_succ manyF default hlt
    have h70 := h.2 i hlt
    have hgen : ∃ f, m.funcs.getD i default = f := ⟨_, rfl⟩
    obtain ⟨f, hf⟩ := hgen
    rw [hf] at hss h70
    have hfi : m.funcs.getD (i : Int).toNat default = f := by rw [Int.toNat_natCast, hf]
    ((repeat' ((fail_if_success (show AWp _ _ _ (Code.region 6 _ _) _ _)); first | refine Zad ?_ | (refine Zab tok (by rfl) ?_; conv => whnf) | refine Zai ?_ | (refine @And.intro (Zaa _ _ _ _) _ ?_ ?_; rotate_left; (conv => whnf); rotate_right))); all_goals (try ((guard_target = Zaa _ _ _ _); refine Zae ?_; (all_goals (try simp only [Zaa, kzz, kz11, kz12, maxL, Zac] at *)); all_goals omega)))
    refine Zau (fun k : Nat => mkS [(3, iv ((((m.funcs.take i).map manyF).sum + ((f.blocks.take k).map kN).sum : Nat) : Int)), (9, funcss m.funcs), (10, iv m.funcs.length), (11, iv i), (16, Zbt f.blocks), (17, iv f.blocks.length), (18, iv k)] []) (fun k => k ≤ f.blocks.length) (fun k => f.blocks.length - k) 0 (Nat.zero_le _) ?_ ?_
    · refine Weak.list [] rfl (by rfl) ?_ .nil
      rw [← hfi]
      ((repeat' first | exact TLes.nil | refine TLes.cons (TLe.eq rfl) ?_); skip)
    intro k hk
    have hk2 := kN_sum (f.blocks.take k)
    have hk3 : (f.blocks.take k).length ≤ 70 := by rw [List.length_take]; omega
    (repeat' ((fail_if_success (show AWp _ _ _ (Code.region 7 _ _) _ _)); first | refine Zad ?_ | (refine Zab tok (by rfl) ?_; conv => whnf) | refine Zai ?_ | (refine Zag ?_; conv => whnf) | (refine Zav ?_; conv => whnf) | refine Zaf rfl (fun hb => ?_) (fun hb => ?_)))
    · have hkl : k < f.blocks.length := by simp only [decide_eq_true_eq] at hb; omega
      clear hb
      have hs2 := sum_take_succ kN default hkl
      have hgen : ∃ b, f.blocks.getD k default = b := ⟨_, rfl⟩
      obtain ⟨b, hbk⟩ := hgen
      rw [hbk] at hs2
      have hbi : f.blocks.getD (k : Int).toNat default = b := by rw [Int.toNat_natCast, hbk]
      ((repeat' first | refine Zad ?_ | (refine Zab tok (by rfl) ?_; conv => whnf) | (refine Zag ?_; conv => whnf) | refine Zaf rfl (fun hb => ?_) (fun hb => ?_) | (refine @And.intro (Zaa _ _ _ _) _ ?_ ?_; rotate_left; (conv => whnf); rotate_right)); all_goals (try ((guard_target = Zaa _ _ _ _); refine Zae ?_; (all_goals (try simp only [Zaa, kzz, kz11, kz12, maxL, Zac] at *)); all_goals omega)))
      · have h4 : kN b = 1 := by
          rw [hbi] at hb; unfold kN; rw [if_pos (by simpa using hb)]
        refine ⟨k + 1, hkl, by omega, ?_⟩
        refine Weak.list [] rfl (by rfl) ?_ .nil
        (repeat' first | exact TLes.nil | refine TLes.cons (TLe.eq rfl) ?_ | refine TLes.cons (TLe.int ?_) ?_)
        · rw [Zak (by omega) (by omega), hs2, h4]; omega
        · exact Zak (by omega) (by omega)
      · have h4 : kN b = 0 := by
          rw [hbi] at hb; unfold kN; rw [if_neg (by simpa using hb)]
        refine ⟨k + 1, hkl, by omega, ?_⟩
        refine Weak.list [] rfl (by rfl) ?_ .nil
        (repeat' first | exact TLes.nil | refine TLes.cons (TLe.eq rfl) ?_ | refine TLes.cons (TLe.int ?_) ?_)
        · rw [hs2, h4]; omega
        · exact Zak (by omega) (by omega)
    · have hkl : k = f.blocks.length := by simp only [decide_eq_false_iff_not] at hb; omega
      subst hkl
      refine ⟨i + 1, hlt, by omega, ?_⟩
      refine Weak.list [] rfl (by rfl) ?_ .nil
      (repeat' first | exact TLes.nil | refine TLes.cons (TLe.eq rfl) ?_ | refine TLes.cons (TLe.int ?_) ?_)
      · rw [hss, List.take_length]; rfl
      · exact Zak (by omega) (by omega)
  · have hil : i = m.funcs.length := by simp only [decide_eq_false_iff_not] at hb; omega
    subst hil
    refine ⟨_, rfl, Rel.int ?_⟩
    rw [List.take_length]; rfl
end Go.Proofs.YtoelbgjpmpoolaaGreat
namespace Go.Proofs.YtoelbgjpmpoolaaGreat
open Go Dv
set_option maxRecDepth 10000
set_option linter.unusedSimpArgs false
structure Iv2 (len : Nat) (D : Nat → List Bool → Bool) (is : List Bool) (n : Nat) (js : List Bool) : Prop where
  sz : js.length = len
  be : Zd9 len D js
  le : leL is js
  don : ∀ j, j < n → D j is = true → js.getD j false = true
theorem Iv2.set {len : Nat} {D : Nat → List Bool → Bool} {is js : List Bool} {n m : Nat} (h : Iv2 len D is n js) (hD : MonoD D) (hm : m < len) (hd : D m js = true) : Iv2 len D is n (js.set m true) := by
  have hs := h.sz
  refine ⟨by simp [hs], fun c hc i e => ?_, h.le.trans (leL_set _ _), fun j hj hd => leL_set _ _ j (h.don j hj hd)⟩
  rw [set_get (by omega), Bool.or_eq_true] at e
  rcases e with e | e
  · have : m = i := by simpa using e
    subst this
    exact hc.cl m hm (hD m js c (h.be c hc) hd)
  · exact h.be c hc i e
structure Iv0 (len : Nat) (D : Nat → List Bool → Bool) (r : Nat) (is : List Bool) : Prop where
  sz : is.length = len
  be : Zd9 len D is
  pr : Closed len D is ∨ r ≤ cnt is
theorem Iv0.next {len : Nat} {D : Nat → List Bool → Bool} {is js : List Bool} {r : Nat} (h0 : Iv0 len D r is) (h : Iv2 len D is len js) : Iv0 len D (r + 1) js := by
  refine ⟨h.sz, h.be, ?_⟩
  obtain ⟨h1, h2⟩ := cnt_mono (by rw [h0.sz, h.sz]) h.le
  by_cases hc : cnt js ≤ cnt is
  · have e := h2 hc
    left
    refine ⟨h.sz, fun n hn hd => ?_⟩
    exact h.don n hn (by rw [e]; exact hd)
  · rcases h0.pr with hcl | hcl
    · exfalso
      have e1 := h.be is hcl
      have := (cnt_mono (by rw [h0.sz, h.sz]) e1).1
      omega
    · right; omega
theorem Iv0.done {len : Nat} {D : Nat → List Bool → Bool} (hD : MonoD D) {is : List Bool} (h0 : Iv0 len D (len + 1) is) : is = lfp len D := by
  refine lfp_uniq hD ?_ h0.be
  rcases h0.pr with h | h
  · exact h
  · have := cnt_le (a := is); rw [h0.sz] at this; omega
end Go.Proofs.YtoelbgjpmpoolaaGreat
namespace Go.Proofs.YtoelbgjpmpoolaaGreat
open Go Dv
set_option maxRecDepth 10000
set_option linter.unusedSimpArgs false
end Go.Proofs.YtoelbgjpmpoolaaGreat
namespace Go.Proofs.YtoelbgjpmpoolaaGreat
open Go Dv
set_option maxRecDepth 10000
set_option linter.unusedSimpArgs false
end Go.Proofs.YtoelbgjpmpoolaaGreat
namespace Go.Proofs.YtoelbgjpmpoolaaGreat
open Go Dv
set_option maxRecDepth 10000
set_option linter.unusedSimpArgs false
end Go.Proofs.YtoelbgjpmpoolaaGreat
namespace Go.Proofs.YtoelbgjpmpoolaaGreat
open Go Dv
set_option maxRecDepth 10000
set_option linter.unusedSimpArgs false
end Go.Proofs.YtoelbgjpmpoolaaGreat
namespace Go.Proofs.YtoelbgjpmpoolaaGreat
open Go Dv
set_option maxRecDepth 10000
set_option linter.unusedSimpArgs false
end Go.Proofs.YtoelbgjpmpoolaaGreat
namespace Go.Proofs.YtoelbgjpmpoolaaGreat
open Go Dv
set_option maxRecDepth 10000
set_option linter.unusedSimpArgs false
end Go.Proofs.YtoelbgjpmpoolaaGreat
namespace Go.Proofs.YtoelbgjpmpoolaaGreat
open Go Dv
set_option maxRecDepth 10000
set_option linter.unusedSimpArgs false
end Go.Proofs.YtoelbgjpmpoolaaGreat
namespace Go.Proofs.YtoelbgjpmpoolaaGreat
open Go Dv Go.ChangeShapes Go.WideShapes Go.ChangeAt Go.RowKit
open Go.Proofs.YtoelbgjpmpoolaaGreat
set_option maxRecDepth 10000
set_option linter.unusedVariables false
section
variable {H : Type} {enc : TypeId × Value → H} {w : World}
abbrev Sm (H : Type) : DataW H → Prop := fun d => Rows.uptoBulk d ≤ 1048576
theorem bulk_all {ds : List (DataW H)} {n : Nat} (h : Rows.uptoBulkAll ds ≤ n) : ∀ d ∈ ds, Rows.uptoBulk d ≤ n := by
  induction ds with
  | nil => intro d hd; cases hd
  | cons x r ih =>
    simp only [Rows.uptoBulkAll] at h
    intro d hd
    simp only [List.mem_cons] at hd
    rcases hd with rfl | hd
    · omega
    · exact ih (by omega) d hd
theorem bulk_pos (d : DataW H) : 1 ≤ Rows.uptoBulk d := by
  cases d with
  | lit l => cases l <;> simp only [Rows.uptoBulk] <;> omega
  | _ => simp only [Rows.uptoBulk]; omega
theorem bulk_len {ds : List (DataW H)} {n : Nat} (h : Rows.uptoBulkAll ds ≤ n) : ds.length ≤ n := by
  induction ds generalizing n with
  | nil => simp
  | cons x r ih =>
    simp only [Rows.uptoBulkAll] at h
    have := bulk_pos x
    have := ih (n := n - Rows.uptoBulk x) (by omega)
    simp only [List.length_cons]; omega
theorem sm_agg (ds : List (DataW H)) (h : Sm H (.agg ds)) : ∀ d ∈ ds, Sm H d := by
  simp only [Sm, Rows.uptoBulk] at h; exact bulk_all (by omega)
theorem sm_slice (es sp : List (DataW H)) (h : Sm H (.slice es sp)) : es.length ≤ maxL ∧ ∀ x ∈ es, Sm H x := by
  simp only [Sm, Rows.uptoBulk] at h
  have h1 : Rows.uptoBulkAll es ≤ 1048576 := by omega
  exact ⟨Nat.le_trans (bulk_len h1) (by decide), bulk_all h1⟩
theorem Zea : Rd enc Tryz.prog w (Sm H) 3 Int (fun n => [iv n]) := Rd.int Tryz.underlying3
theorem rd_u16 : Rd enc Tryz.prog w (Sm H) 50 Int (fun n => [.int .u16 n]) := Rd.int Tryz.underlying50
theorem rd_bool : Rd enc Tryz.prog w (Sm H) 4 Bool (fun b => [.bool b]) := Rd.bool Tryz.underlying4
theorem rd_ints : Rd enc Tryz.prog w (Sm H) 42 (List Int) (fun l => [ints l]) := Rd.slice Tryz.underlying42 (by decide +kernel) (Nat.le_refl _) (fun _ => ⟨rfl, rfl⟩) Zea sm_slice
theorem rd_u16s : Rd enc Tryz.prog w (Sm H) 25 (List Int) (fun l => [u16s l]) := Rd.slice Tryz.underlying25 (by decide +kernel) (Nat.le_refl _) (fun _ => ⟨rfl, rfl⟩) rd_u16 sm_slice
theorem rd_Ins : Rd enc Tryz.prog w (Sm H) 70 Ins Zbc :=
  Rd.map (fun x => ⟨x.1, x.2.1, x.2.2.1, x.2.2.2.1, x.2.2.2.2.1, x.2.2.2.2.2.1, x.2.2.2.2.2.2.1⟩)
    (Rd.struct (fl := [(3, 1), (3, 1), (3, 1), (3, 1), (50, 1), (3, 1), (42, 1)]) Tryz.underlying70 (.cons Zea (.cons Zea (.cons Zea (.cons Zea (.cons rd_u16 (.cons Zea (.cons rd_ints .nil)))))))
      rfl (by decide +kernel) (by decide +kernel) sm_agg) (fun _ => rfl)
theorem rd_inss : Rd enc Tryz.prog w (Sm H) 41 (List Ins) (fun l => [inss l]) := Rd.slice Tryz.underlying41 (by decide +kernel) (by decide) (fun _ => ⟨rfl, rfl⟩) rd_Ins sm_slice
theorem rd_End : Rd enc Tryz.prog w (Sm H) 44 End Zdi :=
  Rd.map (fun x => ⟨x.1, x.2.1, x.2.2.1, x.2.2.2.1, x.2.2.2.2.1, x.2.2.2.2.2.1, x.2.2.2.2.2.2.1, x.2.2.2.2.2.2.2.1⟩)
    (Rd.struct (fl := [(3, 1), (3, 1), (3, 1), (3, 1), (42, 1), (3, 1), (3, 1), (3, 1)]) Tryz.underlying44 (.cons Zea (.cons Zea (.cons Zea (.cons Zea (.cons rd_ints (.cons Zea (.cons Zea (.cons Zea .nil))))))))
      rfl (by decide +kernel) (by decide +kernel) sm_agg) (fun _ => rfl)
theorem rd_Pad : Rd enc Tryz.prog w (Sm H) 40 Pad Zcy :=
  Rd.map (fun x => ⟨x.1, x.2.1, x.2.2.1, x.2.2.2.1⟩)
    (Rd.struct (fl := [(3, 1), (25, 1), (4, 1), (4, 1)]) Tryz.underlying40 (.cons Zea (.cons rd_u16s (.cons rd_bool (.cons rd_bool .nil))))
      rfl (by decide +kernel) (by decide +kernel) sm_agg) (fun _ => rfl)
theorem rd_Block : Rd enc Tryz.prog w (Sm H) 46 Zbe Za5 :=
  Rd.map (fun x => ⟨x.1, x.2.1, x.2.2.1, x.2.2.2.1⟩)
    (Rd.struct (fl := [(4, 1), (40, 4), (41, 1), (44, 8)]) Tryz.underlying46 (.cons rd_bool (.cons rd_Pad (.cons rd_inss (.cons rd_End .nil))))
      rfl (by decide +kernel) (by decide +kernel) sm_agg) (fun _ => rfl)
theorem rd_blocks : Rd enc Tryz.prog w (Sm H) 36 (List Zbe) (fun l => [Zbt l]) := Rd.slice Tryz.underlying36 (by decide +kernel) (by decide) (fun _ => ⟨rfl, rfl⟩) rd_Block sm_slice
theorem rd_Func : Rd enc Tryz.prog w (Sm H) 38 Func Za3 :=
  Rd.map (fun x => ⟨x.1, x.2.1, x.2.2.1⟩)
    (Rd.struct (fl := [(3, 1), (3, 1), (36, 1)]) Tryz.underlying38 (.cons Zea (.cons Zea (.cons rd_blocks .nil)))
      rfl (by decide +kernel) (by decide +kernel) sm_agg) (fun _ => rfl)
theorem rd_funcs : Rd enc Tryz.prog w (Sm H) 22 (List Func) (fun l => [funcss l]) := Rd.slice Tryz.underlying22 (by decide +kernel) (by decide) (fun _ => ⟨rfl, rfl⟩) rd_Func sm_slice
theorem rd_Module : Rd enc Tryz.prog w (Sm H) 24 Zam Zan :=
  Rd.map (fun x => ⟨x.1⟩)
    (Rd.struct (fl := [(22, 1)]) Tryz.underlying24 (.cons rd_funcs .nil)
      rfl (by decide +kernel) (by decide +kernel) sm_agg) (fun _ => rfl)
end
theorem small_of {H : Type} {ds gs : List (DataW H)} (hk : Rows.uptoSmall H (ds ++ gs) = true) : ∀ d ∈ ds, Sm H d := by
  have h := of_decide_eq_true hk
  exact fun d hd => bulk_all h d (List.mem_append_left _ hd)
end Go.Proofs.YtoelbgjpmpoolaaGreat
namespace Go.Proofs.YtoelbgjpmpoolaaGreat
open Go Dv
set_option maxRecDepth 10000
set_option linter.unusedSimpArgs false
end Go.Proofs.YtoelbgjpmpoolaaGreat
namespace Go.Proofs.YtoelbgjpmpoolaaGreat
open Go Dv
set_option maxRecDepth 10000
set_option linter.unusedSimpArgs false
def nilPad : Pad := ⟨0, [], false, false⟩
theorem c_Bools (a b : List Bool) : FC Tryz.prog 18 [Zfk a, Zfk b] (.bool (decide (a = b))) := by
  refine Zao tok Tryz.func18 rfl (by decide +kernel) (Nat.le_of_ble_eq_true rfl) ?_
  refine Zap 0 (fun hl => ?_)
  have hl0 : a.length ≤ maxL := hl.1
  (repeat' first | refine Zad ?_ | (refine Zab tok (by rfl) ?_; conv => whnf) | refine Zai ?_ | (refine Zag ?_; conv => whnf) | (refine Zah ?_; conv => whnf) | refine Zaf rfl (fun hb => ?_) (fun hb => ?_))
  · refine ⟨_, rfl, Rel.bool ?_⟩
    symm; rw [decide_eq_false_iff_not]
    intro e; subst e; simp at hb
  have hlen : a.length = b.length := by simp at hb; omega
  clear hb
  refine Zau (fun i : Nat => mkS [(0, Zfk a), (1, Zfk b), (5, iv i)] [])
    (fun i => i ≤ a.length ∧ ∀ j, j < i → a.getD j false = b.getD j false) (fun i => a.length - i) 0 ⟨Nat.zero_le _, by simp⟩ ?_ ?_
  · refine Weak.list [] rfl (by rfl) ?_ .nil
    ((repeat' first | exact TLes.nil | refine TLes.cons (TLe.eq rfl) ?_); skip)
  rintro i ⟨hi2, hc⟩
  ((repeat' first | refine Zad ?_ | (refine Zab tok (by rfl) ?_; conv => whnf) | (refine Za0 tok mix (by rfl) ?_; conv => whnf) | refine Zai ?_ | (refine Zag ?_; conv => whnf) | (refine Zav ?_; conv => whnf) | (refine Zah ?_; conv => whnf) | refine Zaf rfl (fun hb => ?_) (fun hb => ?_) | (refine @And.intro (Zaa _ _ _ _) _ ?_ ?_; rotate_left; (conv => whnf); rotate_right)); all_goals (try ((guard_target = Zaa _ _ _ _); refine Zae ?_; (all_goals (try simp only [Zaa, kzz, kz11, kz12, maxL, Zac] at *)); all_goals omega)))
  · have hlt : i < a.length := by rename_i h; simp only [Zaa, kzz, kz11, kz12, maxL, Zac] at *; omega
    refine ⟨_, rfl, Rel.bool ?_⟩
    symm; rw [decide_eq_false_iff_not]
    intro e; subst e; simp at hb
  · have hlt : i < a.length := by rename_i h; simp only [Zaa, kzz, kz11, kz12, maxL, Zac] at *; omega
    refine ⟨i + 1, ⟨hlt, fun j hj => ?_⟩, by omega, ?_⟩
    · by_cases e : j = i
      · subst e; simpa using hb
      · exact hc j (by omega)
    refine Weak.list [] rfl (by rfl) ?_ .nil
    ((repeat' first | exact TLes.nil | refine TLes.cons (TLe.eq rfl) ?_ | refine TLes.cons (TLe.int ?_) ?_); (all_goals first | ((try (simp only [Zaa, kzz, kz11, kz12, maxL, Zac] at *)); exact Zak (by omega) (by omega)) | skip))
  · refine ⟨_, rfl, Rel.bool ?_⟩
    symm; rw [decide_eq_true_eq]
    exact Zbk false hlen (fun j hj => hc j (by simp only [Zaa, kzz, kz11, kz12, maxL, Zac] at *; omega))
end Go.Proofs.YtoelbgjpmpoolaaGreat
namespace Go.Proofs.YtoelbgjpmpoolaaGreat
open Go Dv
set_option maxRecDepth 10000
set_option linter.unusedSimpArgs false
def retEnd : End := ⟨1, 0, 0, 0, [], 0, 0, 0⟩
end Go.Proofs.YtoelbgjpmpoolaaGreat
namespace Go.Proofs.YtoelbgjpmpoolaaGreat
open Go Dv
set_option maxRecDepth 10000
set_option linter.unusedSimpArgs false
def awC : Zam := ⟨[⟨0, 1, [⟨false, nilPad, [], ⟨4, 0, 0, 1, [], 0, 0, 1⟩⟩, ⟨true, ⟨0, [], true, false⟩, [], retEnd⟩]⟩, ⟨0, 1, [⟨false, nilPad, [], retEnd⟩]⟩]⟩
def awCF : Func := ⟨0, 1, [⟨false, nilPad, [⟨11, 0, 0, 0, 0, 1, []⟩], ⟨2, 0, 0, 0, [], 0, 0, 0⟩⟩, ⟨true, ⟨0, [], true, false⟩, [], retEnd⟩]⟩
def awCG : Func := ⟨0, 1, [⟨false, nilPad, [], retEnd⟩]⟩
def smallMB (m : Zam) : Bool := decide (m.funcs.length ≤ 20) && m.funcs.all fun f => decide (f.blocks.length ≤ 70)
theorem smallMB_of {m : Zam} (h : smallMB m = true) : SmallM m := by
  unfold smallMB at h
  rw [Bool.and_eq_true, decide_eq_true_eq] at h
  exact ⟨h.1, fun i hi => by have := all_at default h.2 hi; simpa using this⟩
set_option maxHeartbeats 2000000 in
theorem c_awake14 : FC Tryz.prog 12 [] (.bool true) := by
  refine Zao tok Tryz.func12 rfl (by decide +kernel) (Nat.le_of_ble_eq_true rfl) ?_
  (repeat' ((fail_if_success (show AWp _ _ _ (Code.region 2 _ _) _ _)); first | refine Zad ?_ | (refine Zab tok (by rfl) ?_; conv => whnf)))
  refine Zay (Weak.fam (tl := [(1, .bp (1, 0, 0) 0)]) (hl := [((1, 0, 0), .row true 1 1 (fun _ => Zan awC))]) (F := noH) [] rfl (fun i hi => by cases hi) (.cons (.bp rfl rfl) .nil) (.old rfl rfl (GB.one ?_ (fun _ => rfl)) .nil) noF (fun i hi => by cases hi)) ?_
  · (repeat' first | exact GVs.nil | exact lt0 | refine ltS ?_ ?_ | ((conv => arg 4; whnf); (conv => arg 5; whnf); first | refine GVs.cons (GV.imm rfl) ?_ | refine GVs.cons (GV.wk rfl (.nsl rfl)) ?_ | refine GVs.cons (GV.frz (hd_no rfl) rfl (Nat.le_of_ble_eq_true rfl) rfl ?_ ?_) ?_) | exact (show Zbo _ = true from rfl))
  have h1 : FC Tryz.prog 14 [.agg (Zan awC)] (.tup [.agg (Zan ⟨[awCF, awCG]⟩), iv 0]) := by
    have := c_cModule awC
    rw [show Zcq awC = ⟨[awCF, awCG]⟩ from by decide +kernel, show errM awC = 0 from by decide +kernel] at this; exact this
  have h2 : FC Tryz.prog 47 [.agg (Zan awC)] (iv 1) := by
    have := c_Many awC (smallMB_of (by decide +kernel))
    rw [show manyM awC = 1 from by decide +kernel] at this; exact this
  have h3 : FC Tryz.prog 47 [.agg (Zan ⟨[awCF, awCG]⟩)] (iv 0) := by
    have := c_Many ⟨[awCF, awCG]⟩ (smallMB_of (by decide +kernel))
    rw [show manyM ⟨[awCF, awCG]⟩ = 0 from by decide +kernel] at this; exact this
  have e1 : awCF.blocks.length = 2 := rfl
  have e2 : (awCF.blocks.getD (Int.toNat 0) default).ins.length = 1 := rfl
  have e3 : ([awCF, awCG] : List Func).length = 2 := rfl
  have e4 : (([awCF, awCG] : List Func).getD (Int.toNat 0) default).blocks.length = 2 := rfl
  have e5 : ((([awCF, awCG] : List Func).getD (Int.toNat 0) default).blocks.getD (Int.toNat 0) default).ins.length = 1 := rfl
  (repeat' (refine Zab tok (by rfl) ?_; conv => whnf))
  refine .inl ⟨_, _, _, uG (QC.fc h1 rfl), ?_⟩
  conv => whnf
  ((repeat' first | refine Zad ?_ | (refine Zab tok (by rfl) ?_; conv => whnf) | (refine Zag ?_; conv => whnf) | (refine Zah ?_; conv => whnf) | refine Zaf rfl (fun hb => ?_) (fun hb => ?_) | (refine @And.intro (Zaa _ _ _ _) _ ?_ ?_; rotate_left; (conv => whnf); rotate_right)); all_goals (try ((guard_target = Zaa _ _ _ _); ((refine Za1 ?_; intro hgd; (conv at hgd => whnf); (try simp (disch := omega) only [Zak] at hgd))); (all_goals (try simp only [Zaa, kzz, kz11, kz12, maxL, Zac] at *)); all_goals omega)))
  · exfalso; revert hb; decide
  clear hb
  refine .inl ⟨_, _, _, uG (QC.fc h2 rfl), ?_⟩
  conv => whnf
  skip
  refine .inl ⟨_, _, _, uG (QC.fc h3 rfl), ?_⟩
  conv => whnf
  (repeat' (refine Zah ?_; conv => whnf))
  exact ⟨_, rfl, Rel.bool rfl⟩
end Go.Proofs.YtoelbgjpmpoolaaGreat
namespace Go.Proofs.YtoelbgjpmpoolaaGreat
open Go Dv
set_option maxRecDepth 10000
set_option linter.unusedSimpArgs false
set_option maxHeartbeats 4000000 in
theorem c_CalmKeeps (m : Zam) (inputs : List Int) (fuel : Int) : FC Tryz.prog 3 [.agg (Zan m), u16s inputs, .int .u8 fuel] (.bool true) := by
  refine Zao tok Tryz.func3 rfl (by decide +kernel) (Nat.le_of_ble_eq_true rfl) ?_
  refine Zap 1 (fun hl => ?_)
  have hwords : ∀ x ∈ inputs, 0 ≤ x ∧ x ≤ 65535 := fun x hx => by
    obtain ⟨i, hi, rfl⟩ := List.getElem_of_mem hx
    have := (hl.2 i hi).1
    rw [Zbr 0 hi] at this; exact this
  clear hl
  refine Zap 2 (fun hl => ?_)
  have hf0 : 0 ≤ fuel ∧ fuel ≤ 255 := hl
  clear hl
  obtain ⟨n, rfl⟩ := Int.eq_ofNat_of_zero_le hf0.1
  have hn : n ≤ 255 := by omega
  have hmx : maxL = 4294967296 := rfl
  (repeat' first | refine Zad ?_ | (refine Zab tok (by rfl) ?_; conv => whnf))
  refine .inl ⟨_, _, _, uG (QC.fc c_awake14 rfl), ?_⟩
  conv => whnf
  (repeat' first | refine Zad ?_ | (refine Zab tok (by rfl) ?_; conv => whnf) | (refine Zag ?_; conv => whnf) | (refine Zah ?_; conv => whnf) | refine Zaf rfl (fun hb => ?_) (fun hb => ?_))
  · cases hb
  clear hb
  refine .inl ⟨_, _, _, uG (QC.fc (c_r6Small m inputs) rfl), ?_⟩
  conv => whnf
  (repeat' first | refine Zad ?_ | (refine Zab tok (by rfl) ?_; conv => whnf) | (refine Zag ?_; conv => whnf) | (refine Zah ?_; conv => whnf) | refine Zaf rfl (fun hb => ?_) (fun hb => ?_))
  · exact ⟨_, rfl, Rel.bool rfl⟩
  have hsm : smallB m inputs = true := by simpa using hb
  clear hb
  unfold smallB at hsm
  rw [Bool.and_eq_true, decide_eq_true_eq] at hsm
  have hi : (∀ x ∈ inputs, 0 ≤ x ∧ x ≤ 65535) ∧ inputs.length < 1000000 := ⟨hwords, by omega⟩
  refine .inl ⟨_, _, _, uG (QC.fc (c_cModule m) rfl), ?_⟩
  conv => whnf
  (repeat' ((fail_if_success (show AWp _ _ _ (Code.region 7 _ _) _ _)); (fail_if_success (show AWp _ _ _ (Code.region 8 _ _) _ _)); first | refine Zad ?_ | (refine Zab tok (by rfl) ?_; conv => whnf) | (refine Zag ?_; conv => whnf) | refine Zaf rfl (fun hb => ?_) (fun hb => ?_)))
  · have hr : Za6 m = false := by
      cases h : Za6 m with
      | false => rfl
      | true => unfold errM at hb; rw [if_pos h] at hb; cases hb
    (repeat' (refine Zab tok (by rfl) ?_; conv => whnf))
    refine .inl ⟨_, _, _, uG (QC.fc (c_lRight c_lpad m) rfl), ?_⟩
    conv => whnf
    (repeat' (refine Zah ?_; conv => whnf))
    exact ⟨_, rfl, Rel.bool (by rw [hr]; rfl)⟩
  have hr : Za6 m = true := by
    cases h : Za6 m with
    | true => rfl
    | false => unfold errM at hb; rw [if_neg (by rw [h]; simp)] at hb; cases hb
  clear hb
  have hn2 := right_calm hr
  have hc2 : FC Tryz.prog 14 [.agg (Zan (Zcq m))] (.tup [.agg (Zan (Zcq m)), iv 0]) := by
    have := c_cModule (Zcq m)
    rw [calm_again hr, show errM (Zcq m) = 0 from if_pos hn2] at this; exact this
  have hS := c_rSame (Zcq m) (Zcq m)
  rw [decide_eq_true rfl] at hS
  have hR := c_Right (Zcq m)
  rw [hn2] at hR
  have hO : FOb 19 [.agg (Zan (Zcq m))] (outL m) := by
    have := c_tOut (Zcq m)
    rwa [out_calm hr] at this
  have hB := c_Bools (outL m) (outL m)
  rw [decide_eq_true rfl] at hB
  have hK := c_Keeps m (Zcq m) inputs n 2 (by omega) (by omega) (by omega) hr hn2 hi
  rw [keep_of (calm_alike hr hi)] at hK
  have hleft := @calm_left m hr
  have hlen := calm_len hr
  have hos : (outL m).length = m.funcs.length := outL_len hr
  rw [out_calm hr] at hleft
  have hgen : ∃ N, Zcq m = N := ⟨_, rfl⟩
  obtain ⟨N, hN⟩ := hgen
  rw [hN] at hc2 hS hR hO hK hleft hlen hn2
  rw [hN]
  (repeat' (refine Zab tok (by rfl) ?_; conv => whnf))
  refine .inl ⟨_, _, _, uG (QC.fc hc2 rfl), ?_⟩
  conv => whnf
  (repeat' first | refine Zad ?_ | (refine Za0 tok mix (by rfl) ?_; conv => whnf))
  refine .inl ⟨_, _, _, uG (QC.fc hS rfl), ?_⟩
  conv => whnf
  skip
  refine .inl ⟨_, _, _, uG (QC.fc hR rfl), ?_⟩
  conv => whnf
  skip
  refine .inl ⟨_, _, _, uG (QC.fo (rd := []) (c_tOut m) (Ress.imms rfl) (.inl rfl) rfl), ?_⟩
  conv => whnf
  skip
  refine .inl ⟨_, _, _, uG (QC.fo (rd := []) hO (Ress.imms rfl) (.inl rfl) rfl), ?_⟩
  conv => whnf
  skip
  refine .inl ⟨_, _, _, uG (QC.sc (rd := [(51, 0, 0), (53, 0, 0)]) hB (.cons (.row rfl (Zcx.1 rfl) rfl rfl (fun _ _ => rfl)) (.cons (.row rfl (Zcx.1 rfl) rfl rfl (fun _ _ => rfl)) .nil)) rfl), ?_⟩
  conv => whnf
  (repeat' first | refine Zad ?_ | (refine Zab tok (by rfl) ?_; conv => whnf) | (refine Zag ?_; conv => whnf) | (refine Zah ?_; conv => whnf) | refine Zaf rfl (fun hb => ?_) (fun hb => ?_))
  · cases hb
  clear hb
  refine .inl ⟨_, _, _, uG (QC.fo (rd := []) hO (Ress.imms rfl) (.inl rfl) rfl), ?_⟩
  conv => whnf
  have hpos : ∀ i, i < N.funcs.length → ∀ k, k < (N.funcs.getD i default).blocks.length → ((N.funcs.getD i default).blocks.getD k default).fin.kind = 4 → 0 ≤ ((N.funcs.getD i default).blocks.getD k default).fin.f ∧ ((N.funcs.getD i default).blocks.getD k default).fin.f < N.funcs.length := fun i hi k hk h4 =>
    (argsB_n (end4 (Zeu (Zc8 hn2 hi) hk) h4).2.1).1
  have hbl : ∀ i, i < N.funcs.length → (N.funcs.getD i default).blocks.length ≤ 64 := fun i hi => (okF_funP (Zc8 hn2 hi)).2.2.2.2.2.1
  have hil : ∀ i, i < N.funcs.length → ∀ k, k < (N.funcs.getD i default).blocks.length → ((N.funcs.getD i default).blocks.getD k default).ins.length ≤ 64 := fun i hi k hk => by
    have := Zeu (Zc8 hn2 hi) hk
    unfold blkB at this
    rw [Bool.and_eq_true, decide_eq_true_eq] at this
    exact this.1.1
  have hfl : N.funcs.length ≤ 16 := by
    have := hn2
    unfold Za6 at this
    rw [Bool.and_eq_true, decide_eq_true_eq] at this
    exact this.1.2.1
  rw [← hlen] at hos
  (repeat' ((fail_if_success (show AWp _ _ _ (Code.region 13 _ _) _ _)); first | refine Zad ?_ | (refine Zab tok (by rfl) ?_; conv => whnf) | refine Zai ?_))
  refine Zau (fun i : Nat => mkS [(1, u16s inputs), (2, .int .u8 n), (3, .bp (3, 0, 0) 0), (7, .bp (7, 0, 0) 0), (11, .rs (58, 0, 0) 1 0 (outL m).length), (12, iv i)] [((3, 0, 0), Zal (Zan m)), ((7, 0, 0), .row true 1 1 (fun _ => Zan N)), ((58, 0, 0), .row true 1 (outL m).length (fun i => [.bool ((outL m).getD i false)]))]) (fun i => i ≤ N.funcs.length) (fun i => N.funcs.length - i) 0 (Nat.zero_le _) ?_ ?_
  · refine Weak.list [((3, 0, 0), .old (3, 0, 0), Zal (Zan m)), ((7, 0, 0), .old (7, 0, 0), .row true 1 1 (fun _ => Zan N)), ((58, 0, 0), .old (58, 0, 0), .row true 1 (outL m).length (fun i => [.bool ((outL m).getD i false)]))] rfl (by rfl) ?_ (.old rfl (BLe.refl _) (.old rfl (BLe.rowW (Nat.le_refl _) (ltS (Wks.of rfl) lt0)) (.old rfl (BLe.refl _) .nil)))
    ((repeat' first | exact TLes.nil | refine TLes.cons (TLe.eq rfl) ?_); skip)
  intro i hi
  (repeat' ((fail_if_success (show AWp _ _ _ (Code.region 15 _ _) _ _)); (fail_if_success (show AWp _ _ _ (Code.region 21 _ _) _ _)); first | refine Zad ?_ | (refine Zab tok (by rfl) ?_; conv => whnf) | refine Zai ?_ | (refine Zag ?_; conv => whnf) | (refine Zav ?_; conv => whnf) | refine Zaf rfl (fun hb => ?_) (fun hb => ?_)))
  · have hlt : i < N.funcs.length := by simp only [decide_eq_true_eq] at hb; omega
    clear hb
    have hiz : (i : Int).toNat = i := by simp
    have hpi := hpos i hlt
    have hbi := hbl i hlt
    have hii := hil i hlt
    have hlf := @hleft i
    have hgen : ∃ F, N.funcs.getD i default = F := ⟨_, rfl⟩
    obtain ⟨F, hF⟩ := hgen
    rw [hF] at hpi hbi hii hlf
    have hFz : N.funcs.getD (i : Int).toNat default = F := by rw [hiz]; exact hF
    (repeat' ((fail_if_success (show AWp _ _ _ (Code.region 16 _ _) _ _)); first | (refine Zab tok (by rfl) ?_; conv => whnf) | refine Zai ?_))
    refine Zau (fun k : Nat => mkS [(1, u16s inputs), (2, .int .u8 n), (3, .bp (3, 0, 0) 0), (7, .bp (7, 0, 0) 0), (11, .rs (58, 0, 0) 1 0 (outL m).length), (12, iv i), (13, iv k)] [((3, 0, 0), Zal (Zan m)), ((7, 0, 0), .row true 1 1 (fun _ => Zan N)), ((58, 0, 0), .row true 1 (outL m).length (fun i => [.bool ((outL m).getD i false)]))]) (fun k => k ≤ F.blocks.length) (fun k => F.blocks.length - k) 0 (Nat.zero_le _) ?_ ?_
    · refine Weak.list [((3, 0, 0), .old (3, 0, 0), Zal (Zan m)), ((7, 0, 0), .old (7, 0, 0), .row true 1 1 (fun _ => Zan N)), ((58, 0, 0), .old (58, 0, 0), .row true 1 (outL m).length (fun i => [.bool ((outL m).getD i false)]))] rfl (by rfl) ?_ (.old rfl (BLe.refl _) (.old rfl (BLe.refl _) (.old rfl (BLe.refl _) .nil)))
      ((repeat' first | exact TLes.nil | refine TLes.cons (TLe.eq rfl) ?_); skip)
    intro k hk
    ((repeat' ((fail_if_success (show AWp _ _ _ (Code.region 18 _ _) _ _)); (fail_if_success (show AWp _ _ _ (Code.region 14 _ _) _ _)); first | refine Zad ?_ | (refine Zab tok (by rfl) ?_; conv => whnf) | refine Zai ?_ | (refine Zag ?_; conv => whnf) | (refine Zav ?_; conv => whnf) | refine Zaf rfl (fun hb => ?_) (fun hb => ?_) | (refine @And.intro (Zaa _ _ _ _) _ ?_ ?_; rotate_left; (conv => whnf); rotate_right))); all_goals (try ((guard_target = Zaa _ _ _ _); refine Zae ?_; (all_goals (try simp only [Zaa, kzz, kz11, kz12, maxL, Zac] at *)); all_goals omega)))
    · have hkl : k < F.blocks.length := by rw [hFz] at hb; simp only [decide_eq_true_eq] at hb; omega
      clear hb
      have hkz : (k : Int).toNat = k := by simp
      have hpk := hpi k hkl
      have hik := hii k hkl
      have hlk := hlf (k := k) hlt hkl
      have hgen : ∃ b, F.blocks.getD k default = b := ⟨_, rfl⟩
      obtain ⟨b, hb0⟩ := hgen
      rw [hb0] at hpk hik hlk
      have hkF : k < (N.funcs.getD (i : Int).toNat default).blocks.length := by rw [hFz]; exact hkl
      ((repeat' ((fail_if_success (show AWp _ _ _ (Code.region 19 _ _) _ _)); first | refine Zad ?_ | (refine Zab tok (by rfl) ?_; conv => whnf) | (refine @And.intro (Zaa _ _ _ _) _ ?_ ?_; rotate_left; (conv => whnf); rotate_right))); all_goals (try ((guard_target = Zaa _ _ _ _); refine Zae ?_; (all_goals (try simp only [Zaa, kzz, kz11, kz12, maxL, Zac] at *)); all_goals omega)))
      refine Zay (Weak.list (tl := [(1, u16s inputs), (2, .int .u8 n), (3, .bp (3, 0, 0) 0), (7, .bp (7, 0, 0) 0), (11, .rs (58, 0, 0) 1 0 (outL m).length), (12, iv i), (13, iv k), (14, .bp (14, 0, 0) 0)]) [((3, 0, 0), .old (3, 0, 0), Zal (Zan m)), ((7, 0, 0), .old (7, 0, 0), .row true 1 1 (fun _ => Zan N)), ((58, 0, 0), .old (58, 0, 0), .row true 1 (outL m).length (fun i => [.bool ((outL m).getD i false)])), ((14, 0, 0), .old (14, 0, 0), .row true 14 1 (fun _ => Za5 b))] rfl (by rfl) ?_ (.old rfl (BLe.refl _) (.old rfl (BLe.refl _) (.old rfl (BLe.refl _) (.old rfl (BLe.rowW (Nat.le_refl _) (ltS (Wks.of (by rw [← hb0, ← hF, ← hiz, Int.toNat_natCast, Int.toNat_natCast]; rfl)) lt0)) .nil))))) ?_
      · ((repeat' first | exact TLes.nil | refine TLes.cons (TLe.eq rfl) ?_); skip)
      ((repeat' first | refine Zad ?_ | (refine Zab tok (by rfl) ?_; conv => whnf) | (refine Zag ?_; conv => whnf) | (refine Zah ?_; conv => whnf) | refine Zaf rfl (fun hb => ?_) (fun hb => ?_) | (refine @And.intro (Zaa _ _ _ _) _ ?_ ?_; rotate_left; (conv => whnf); rotate_right)); all_goals (try ((guard_target = Zaa _ _ _ _); ((refine Za1 ?_; intro hgd; (conv at hgd => whnf))); (all_goals (try simp only [Zaa, kzz, kz11, kz12, maxL, Zac] at *)); all_goals omega)))
      · exfalso
        by_cases h4 : b.fin.kind = 4
        · have hp4 := hpk h4
          have := hlk h4
          unfold isAt at this
          rw [decide_eq_true h4] at hb
          cases e : (outL m).getD b.fin.f.toNat false with
          | true => rw [List.getD_eq_getElem?_getD] at e; simp [e] at hb
          | false => have := this e; simp [e] at hb; omega
        · rw [decide_eq_false h4] at hb; simp at hb
      · refine ⟨k + 1, hkl, by omega, ?_⟩
        refine Weak.list [((3, 0, 0), .old (3, 0, 0), Zal (Zan m)), ((7, 0, 0), .old (7, 0, 0), .row true 1 1 (fun _ => Zan N)), ((58, 0, 0), .old (58, 0, 0), .row true 1 (outL m).length (fun i => [.bool ((outL m).getD i false)]))] rfl (by rfl) ?_ (.old rfl (BLe.refl _) (.old rfl (BLe.refl _) (.old rfl (BLe.refl _) .nil)))
        ((repeat' first | exact TLes.nil | refine TLes.cons (TLe.eq rfl) ?_ | refine TLes.cons (TLe.int ?_) ?_); (all_goals first | ((try (simp only [Zaa, kzz, kz11, kz12, maxL, Zac] at *)); exact Zak (by omega) (by omega)) | skip))
    · (repeat' (refine Zab tok (by rfl) ?_; conv => whnf))
      refine ⟨i + 1, hlt, by omega, ?_⟩
      refine Weak.list [((3, 0, 0), .old (3, 0, 0), Zal (Zan m)), ((7, 0, 0), .old (7, 0, 0), .row true 1 1 (fun _ => Zan N)), ((58, 0, 0), .old (58, 0, 0), .row true 1 (outL m).length (fun i => [.bool ((outL m).getD i false)]))] rfl (by rfl) ?_ (.old rfl (BLe.refl _) (.old rfl (BLe.refl _) (.old rfl (BLe.refl _) .nil)))
      ((repeat' first | exact TLes.nil | refine TLes.cons (TLe.eq rfl) ?_ | refine TLes.cons (TLe.int ?_) ?_); (all_goals first | ((try (simp only [Zaa, kzz, kz11, kz12, maxL, Zac] at *)); exact Zak (by omega) (by omega)) | skip))
  · clear hb
    have hK2 : ∀ y, y = (n : Int) → FC Tryz.prog 20 [.agg (Zan m), .agg (Zan N), u16s inputs, .int .i64 y, iv 2] (.bool true) := fun y e => by rw [e]; exact hK
    (repeat' (refine Zab tok (by rfl) ?_; conv => whnf))
    refine .inl ⟨_, _, _, uG (QC.fc (hK2 _ (Zak (by omega) (by omega))) rfl), ?_⟩
    conv => whnf
    (repeat' (refine Zah ?_; conv => whnf))
    exact ⟨_, rfl, Rel.bool rfl⟩
end Go.Proofs.YtoelbgjpmpoolaaGreat
namespace Go.Proofs.YtoelbgjpmpoolaaGreat
open Go Dv Go.ChangeShapes Go.WideShapes Go.ChangeAt Go.RowKit
open Go.Proofs.YtoelbgjpmpoolaaGreat
set_option maxRecDepth 100000
set_option linter.unusedVariables false
namespace calmKeeps
theorem own : ownKnob Tryz.prog.godebug = none := by kernel_rfl
theorem contract (H : Type) (enc : TypeId × Value → H) (W : World) (base : Nat) (args : Array Value) (ds gs : List (DataW H)) (before : List MemPlace) (hk : Rows.uptoSmall H (ds ++ gs) = true)
    (hval : ∀ (j : Nat) t v, Tryz.f3.params[j]? = some t → args[j]? = some v → Value.okWide Tryz.prog W .any base t v)
    (hW : DataW.Whole enc Tryz.prog Tryz.f3.params.toList Rows.calmKeepsSpec.vars false W args.toList ds gs before) :
    Calls Tryz.prog 3 args W fun e W' => ∃ v, e = .returned v ∧ Rows.calmKeepsSpec.post enc Tryz.prog Tryz.f3 false true false false W args v W' := by
  have hsm := small_of hk
  have hW' := hW
  obtain ⟨p, q, hA0, hV, rfl, hfz, hnd⟩ := hW
  have hA : DataW.TrodAll enc Tryz.prog W 0 (fun _ => true) true Tryz.f3.params.toList args.toList ds p := hA0
  rw [Tryz.params3] at hA hval
  obtain ⟨v0, vs0, d0, ds0, p0, q0, hargs, rfl, rfl, h0, r0⟩ := trodAll_cons hA
  obtain ⟨v1, vs1, d1, ds1, p1, q1, rfl, rfl, rfl, h1, r1⟩ := trodAll_cons r0
  obtain ⟨v2, vs2, d2, ds2, p2, q2, rfl, rfl, rfl, h2, r2⟩ := trodAll_cons r1
  obtain ⟨rfl, rfl, rfl⟩ := trodAll_nil r2
  obtain rfl : args = #[v0, v1, v2] := by cases args; simp_all
  obtain ⟨x0, hx0⟩ := arg_struct Tryz.underlying24 (hval 0 _ v0 rfl rfl) h0 rd_Module (hsm d0 (by simp))
  obtain ⟨x1, hx1⟩ := arg_slice Tryz.underlying25 (hval 1 _ v1 rfl rfl) h1 rd_u16s (hsm d1 (by simp))
  obtain ⟨x2, hx2⟩ := arg_int Tryz.underlying5 (hval 2 _ v2 rfl rfl) h2
  have hb2 := hx2
  simp only [V] at hb2
  obtain ⟨rfl, rfl⟩ := trodVars_none hV
  refine law_contract (tb := 4) (by decide +kernel) (by rw [Tryz.params3]; decide +kernel) rfl (by kernel_rfl) Tryz.underlying4 hW' ⟨rfl, rfl, rfl⟩ (FC.calls (c_CalmKeeps x0 x1 x2) ?_)
  simp only [Vs]
  exact ⟨_, _, rfl, hx0, _, _, rfl, hx1, _, _, rfl, hx2, rfl⟩
theorem lifted (os : Os) (started : os.Started) (H : Type) (enc : TypeId × Value → H) (F : Stop.Interp) :
    ReturnsInHanded {} Tryz.checked os 3 .any ((Rows.OpenSpec.upto Rows.calmKeepsSpec).pre6 enc Tryz.prog Tryz.f3 Rows.calmKeepsUptoRow.domain false) (((Rows.OpenSpec.upto Rows.calmKeepsSpec).at F).post enc Tryz.prog Tryz.f3 false true false false) := by
  refine returnsInHanded_of_cond (C := Tryz.checked) (s := Rows.OpenSpec.upto Rows.calmKeepsSpec) (k := Rows.uptoSmall) rfl own started (by kernel_rfl) Tryz.func3
    (OpenSpec.witness (enc := enc) (C := Tryz.checked) (s := Rows.OpenSpec.upto Rows.calmKeepsSpec) (k := Rows.uptoSmall) rfl false ⟨#[], #[.agg #[.slice none 0 0], .slice none 0 0, .int .u8 0], []⟩ 64 (by kernel_rfl) (by kernel_rfl) (by kernel_rfl)
      (x := ([.agg [.nil], .nil, .lit (.int .u8 0)], [], [])) (by kernel_rfl) rfl (by kernel_rfl)) ?_
  intro W base args ds gs before hval hW _ hk _
  exact contract H enc W base args ds gs before hk hval hW
theorem over : Rows.calmKeepsUptoRow.holds Tryz.pinned (Rows.OpenSpec.upto Rows.calmKeepsSpec) :=
  OpenClaim.holds_of_cond 3 Tryz.f3 rfl rfl rfl rfl rfl rfl rfl ⟨rfl, rfl, rfl, rfl, rfl⟩ rfl rfl rfl rfl rfl (by kernel_rfl) Tryz.func3 (by kernel_rfl)
    (of_decide_eq_true (by kernel_rfl)) (by unfold Func.isWrapper; first | (rw [if_pos (by decide +kernel)]; kernel_rfl) | (rw [if_neg (by decide +kernel)]; exact ⟨rfl, rfl⟩))
    (fun os started H enc _ F => lifted os started H enc F)
end calmKeeps
theorem calmKeeps_holds : Rows.CalmKeepsUptoSaid := calmKeeps.over
end Go.Proofs.YtoelbgjpmpoolaaGreat
