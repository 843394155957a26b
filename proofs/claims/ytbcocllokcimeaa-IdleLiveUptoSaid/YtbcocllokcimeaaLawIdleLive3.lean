/- What is live at a block of what was cleaned was live there ahead. -/
import Derived.Test.YtbcocllokcimeaaDvc3
import Derived.Test.YtbcocllokcimeaaLawIdleLive2
import Derived.Test.YtbcocllokcimeaaRows
import Derived.WalkKit
import Derived.ProofKit
import Derived.OpenShut
import Derived.JoinedCond
set_option linter.unusedVariables false
set_option linter.unusedSimpArgs false
set_option linter.unnecessarySimpa false
namespace Go.Proofs.Ytbcocllokcimeaa
open Go Dv
set_option maxRecDepth 10000
set_option linter.unusedSimpArgs false
noncomputable def gEnds (f : Func) (q : Nat) : Nat → Bool := Zch (atB (Zbi f) q) (Zam (f.blocks.getD q default).fin)
noncomputable def blkC (f : Func) (q : Nat) : Zb0 := { f.blocks.getD q default with ins := cleanL (f.blocks.getD q default).ins (gEnds f q) }
noncomputable def cutB (f : Func) (k : Nat) : List Zb0 := (List.range f.blocks.length).map fun q => if q < k then blkC f q else f.blocks.getD q default
noncomputable def Zbu (f : Func) : Func := { f with blocks := cutB f (Zbi f).length }
theorem Zcs (f : Func) (k : Nat) : (cutB f k).length = f.blocks.length := by simp [cutB]
theorem cutB_at {f : Func} {k q : Nat} (h : q < f.blocks.length) : (cutB f k).getD q default = if q < k then blkC f q else f.blocks.getD q default := by
  unfold cutB
  rw [List.getD_eq_getElem?_getD, List.getElem?_map, List.getElem?_range h]; rfl
theorem cutB_zero (f : Func) : cutB f 0 = f.blocks := by
  apply List.ext_getElem
  · exact Zcs f 0
  · intro i h1 h2
    have := cutB_at (f := f) (k := 0) h2
    rw [if_neg (Nat.not_lt_zero i)] at this
    simpa [List.getD_eq_getElem?_getD, h1, h2] using this
theorem foundB_len (f : Func) : (Zbi f).length ≤ f.blocks.length := by
  unfold Zbi
  split
  · exact Nat.le_of_eq (Zdf f _).1.l2
  · exact Nat.zero_le _
def famK (n R k : Nat) (g : Nat → Nat → Bool) : Zal := famC 1002 (fun p q => bif (Nat.ble k p && Nat.blt p n) && Nat.beq q 0 then some (Zav R (g p)) else none)
abbrev rowK (n R k : Nat) : Zak := .row false 1 n (fun q => [bif Nat.ble k q then .rs (1002, q, 0) 1 0 R else .any])
theorem famK_some {n R k : Nat} {g : Nat → Nat → Bool} {j : Dv.Id} {b : Zak} (h : famK n R k g j = some b) : ∃ p, j = (1002, p, 0) ∧ k ≤ p ∧ p < n ∧ b = Zav R (g p) := by
  obtain ⟨p, q, rfl, h2⟩ := famC_some h
  cases e : ((Nat.ble k p && Nat.blt p n) && Nat.beq q 0) with
  | false => rw [e] at h2; cases h2
  | true =>
    rw [e] at h2
    rw [Bool.and_eq_true, Bool.and_eq_true, Nat.blt_eq, Nat.ble_eq] at e
    have := Nat.eq_of_beq_eq_true e.2
    subst this
    exact ⟨p, rfl, e.1.1, e.1.2, (Option.some.inj h2).symm⟩
theorem Zd9 {n R k p : Nat} {g : Nat → Nat → Bool} (hk : k ≤ p) (h : p < n) : famK n R k g (1002, p, 0) = some (Zav R (g p)) := by
  show (bif (Nat.ble k p && Nat.blt p n) && Nat.beq 0 0 then _ else none) = _
  rw [show Nat.blt p n = true from by rw [Nat.blt_eq]; exact h, show Nat.ble k p = true from by rw [Nat.ble_eq]; exact hk]; rfl
theorem keepK {src : Dv.Id → Option Dv.Id} {h h' : Zal} {n R k : Nat} {g : Nat → Nat → Bool} (hs : ∀ p, k ≤ p → src (1002, p, 0) = some (1002, p, 0)) (hh : ∀ p, k ≤ p → p < n → h (1002, p, 0) = some (Zav R (g p))) : ∀ j b, famK n R k g j = some b → HOk src h h' j b := by
  intro j b e
  obtain ⟨p, rfl, hk, hp, rfl⟩ := famK_some e
  exact HOk.mk (hs p hk) (hh p hk hp) (GB.rowI (Nat.le_refl _) (fun _ _ => ⟨rfl, rfl⟩))
theorem GB_rowK {src : Dv.Id → Option Dv.Id} {h h' : Zal} {n R k k' : Nat} {b : Nat → Zak} (hk : k ≤ k') (hs : ∀ p, k' ≤ p → src (1002, p, 0) = some (1002, p, 0)) (hh : ∀ p, k' ≤ p → p < n → h' (1002, p, 0) = some (b p)) : GB src h h' (rowK n R k) (rowK n R k') :=
  GB.row (Nat.le_refl _) (fun q hq => by
    by_cases e : k' ≤ q
    · exact .cons (.cc (x' := .rs (1002, q, 0) 1 0 R) (y' := .rs (1002, q, 0) 1 0 R) (by rw [show Nat.ble k q = true from by rw [Nat.ble_eq]; omega]; rfl) (by rw [show Nat.ble k' q = true from by rw [Nat.ble_eq]; exact e]; rfl) (.rs (hh q e hq) (hs q e) rfl rfl)) .nil
    · refine .cons ?_ .nil
      rw [show Nat.ble k' q = false from by rw [Bool.eq_false_iff]; intro h; rw [Nat.ble_eq] at h; exact e h]
      exact .any) (fun e => by cases e)
theorem modH1_domX {l : List Func} {i : Dv.Id} (h : (modH1 l i).isSome = true) : i = (900, 0, 0) ∨ ∃ j, i = (1000, j, 0) := by
  cases e : modH1 l i with
  | none => rw [e] at h; cases h
  | some b =>
    rcases copyH_sub l i b e with ⟨rfl, _⟩ | ⟨j, rfl, _⟩
    · exact .inl rfl
    · exact .inr ⟨j, rfl⟩
abbrev fcl (f : Func) : List AV := [iv f.params, iv f.regs, .rs (901, 0, 0) 14 0 f.blocks.length]
set_option maxHeartbeats 4000000 in
theorem c_idleF (f : Func) : FC Try.prog 7 [.agg (Zau f)] (.agg (Zau (Zbu f))) := by
  refine Za1 tok Try.func7 rfl (by decide +kernel) (Nat.le_of_ble_eq_true rfl) ?_
  refine Zar 0 (fun hl => ?_)
  have hmx : maxL = 4294967296 := rfl
  have hl0 : f.blocks.length ≤ maxL := hl.2.2.1.1
  clear hl
  (repeat' first | refine Zad ?_ | (refine Zab tok (by rfl) ?_; conv => whnf))
  refine .inr ⟨_, _, _, uG (QH.giveF (rd := [(9, 0, 0)]) (c_Copy1 [f]) (.cons (.agg (.cons (.rsN rfl (List.mem_singleton.2 rfl) (Nat.le_refl _) rfl (ltS (Ress.imms rfl) lt0)) .nil)) .nil) (fun i hi => by rcases modH1_domX hi with rfl | ⟨j, rfl⟩ <;> rfl)), ?_⟩
  conv => whnf
  have hone : [f].length = 1 := rfl
  ((repeat' ((fail_if_success (show AWp _ _ _ (Code.region 2 _ _) _ _)); first | refine Zad ?_ | (refine @And.intro (Zaa _ _ _ _) _ ?_ ?_; rotate_left; (conv => whnf); rotate_right))); all_goals (try ((guard_target = Zaa _ _ _ _); refine Zae ?_; (all_goals (try simp only [Zaa, kzz, kz11, kz12, maxL, Zac] at *)); all_goals omega)))
  have hc1 : modH1 [f] (1000, 0, 0) = some (blkR1 f.blocks) := modH1_at (l := [f]) (i := 0) Nat.zero_lt_one
  refine Zat (Weak.fam (L := []) (tl := [(1, .bp (1, 0, 0) 0), (2, .bp (2, 0, 0) 0)]) (hl := [((1, 0, 0), .row false 3 1 (fun _ => fcl f)), ((2, 0, 0), Za6 [iv 0, iv 0, .nsl]), ((901, 0, 0), blkR1 (cutB f 0))]) (F := noH) [((901, 0, 0), some (1000, 0, 0))] rfl (fun c hc => by simp only [tgts, List.mem_singleton] at hc; subst hc; exact .inl rfl) ?_ ?_ noF (fun i hi => by cases hi)) ?_
  · (repeat' first | exact TLg.nil | refine TLg.cons (GV.bp rfl rfl) ?_)
    all_goals rfl
  · refine .old rfl rfl (GB.one ?_ (fun e => by cases e)) (.old rfl rfl (GB.one (GVs.imm rfl) (fun _ => rfl)) (.old rfl ?_ (GB_blk1 _) .nil))
    · exact .cons (.imm rfl) (.cons (.imm rfl) (.cons (.rs rfl rfl rfl rfl) .nil))
    · dsimp only [updH, bigH]
      rw [hc1, cutB_zero]; rfl
  (repeat' (refine Zab tok (by rfl) ?_; conv => whnf))
  have hres : ∀ (h : Zal), h (901, 0, 0) = some (blkR1 (cutB f 0)) → Ress h [(901, 0, 0)] [.agg (fcl f)] [.agg (Zau f)] := fun h h901 => by
    rw [cutB_zero] at h901
    exact .cons (.agg (.cons (.imm rfl) (.cons (.imm rfl) (.cons (.row h901 (.head _) rfl rfl (fun q hq => rfl)) .nil)))) .nil
  refine .inr ⟨_, _, _, uG (QH.lendF (c_BehindX f) (hres _ rfl) (fun i hi => ?_) rfl (fun j b hb => ?_)), ?_⟩
  · rcases lookNX hi with h | h
    · simp only [List.map_cons, List.map_nil, List.mem_cons, List.not_mem_nil, or_false] at h
      subst h; rfl
    · obtain ⟨b, hb⟩ := Option.isSome_iff_exists.1 h
      obtain ⟨p, rfl, _⟩ := famB_some hb
      rfl
  · rcases orH_some hb with h | ⟨_, h⟩
    · simp only [Za9] at h
      cases e2 : idEq u3 j with
      | false => rw [e2] at h; cases h
      | true => rw [e2] at h; cases h; exact fun _ _ => rfl
    · obtain ⟨p, _, _, rfl⟩ := famB_some h
      exact fun _ _ => rfl
  conv => whnf
  have hnl := foundB_len f
  have hgen : ∃ nB, (Zbi f).length = nB := ⟨_, rfl⟩
  obtain ⟨nB, hnB⟩ := hgen
  have hidl : Zbu f = { f with blocks := cutB f nB } := by unfold Zbu; rw [hnB]
  rw [hnB] at hnl
  (repeat' ((fail_if_success (show AWp _ _ _ (Code.region 3 _ _) _ _)); refine Zaf ?_))
  refine Zap (fun k : Nat => mkF [(1, .bp (1, 0, 0) 0), (2, .bp (2, 0, 0) 0), (16, .rs u3 1 0 nB), (17, iv nB), (18, iv k)] [((1, 0, 0), .row false 3 1 (fun _ => fcl f)), ((2, 0, 0), Za6 [iv 0, iv 0, .nsl]), ((901, 0, 0), blkR1 (cutB f k)), ((903, 0, 0), rowK nB f.regs.toNat k)] (famK nB f.regs.toNat k (atB (Zbi f)))) (fun k => k ≤ nB) (fun k => nB - k) 0 (Nat.zero_le _) ?_ ?_
  · rw [hnB]
    refine Weak.fam [] rfl (fun i hi => by cases hi) ?_ ?_ (keepK (fun _ _ => rfl) (fun p _ hp => ?_)) (fun i hi => by cases hi)
    · (repeat' first | exact TLg.nil | refine TLg.cons (GV.imm rfl) ?_ | refine TLg.cons (GV.bp rfl rfl) ?_ | refine TLg.cons (GV.rs rfl rfl ?_ ?_) ?_)
      all_goals rfl
    · exact .old rfl rfl (GB.one (.cons (.imm rfl) (.cons (.imm rfl) (.cons (.rs rfl rfl rfl rfl) .nil))) (fun e => by cases e)) (.old rfl rfl (GB.one (GVs.imm rfl) (fun _ => rfl)) (.old rfl rfl (GB_blk1 _) (.old rfl rfl (GB.row (Nat.le_refl _) (fun q hq => .cons (.cc rfl rfl (.rs (Zd9 (Nat.zero_le _) hq) rfl rfl rfl)) .nil) (fun e => by cases e)) .nil)))
    · exact bigH_atX (u := orH (Za9 [(u3, rowB nB f.regs.toNat)]) (famB nB f.regs.toNat (atB (Zbi f)))) (Zb6 hp)
  intro k hk
  (repeat' ((fail_if_success (show AWp _ _ _ (Code.region 4 _ _) _ _)); first | refine Zad ?_ | (refine Zab tok (by rfl) ?_; conv => whnf) | refine Zaf ?_ | (refine Zai ?_; conv => whnf) | (refine Zan ?_; conv => whnf) | (refine Zaj ?_; conv => whnf) | refine Zah rfl (fun hb => ?_) (fun hb => ?_)))
  · have hkn : k < nB := by simp only [decide_eq_true_eq] at hb; omega
    clear hb
    have hkl : k < f.blocks.length := by omega
    have hw : Zb8 f = true := by
      cases h : Zb8 f with
      | true => rfl
      | false =>
        exfalso
        obtain ⟨_, e2⟩ := found_no h
        rw [e2] at hnB
        simp only [List.length_nil] at hnB
        omega
    obtain ⟨hr0, hr2, hfb⟩ := whole_fun hw
    obtain ⟨ps, hfun⟩ := whole_ok hw
    have hok := okL hfun hkl
    have hgen : ∃ b, f.blocks.getD k default = b := ⟨_, rfl⟩
    obtain ⟨b, hbk⟩ := hgen
    have hz : 0 + (k : Int).toNat = k := by simp
    have hget : (cutB f k).getD (0 + (k : Int).toNat) default = b := by
      rw [hz, cutB_at hkl, if_neg (Nat.lt_irrefl k), hbk]
    have hcl := Zcs f k
    rw [hbk] at hok
    have hgen : ∃ g0, atB (Zbi f) k = g0 := ⟨_, rfl⟩
    obtain ⟨g0, hg0⟩ := hgen
    have hEn : gEnds f k = Zch g0 (Zam b.fin) := by unfold gEnds; rw [hbk, hg0]
    have hout : famK nB f.regs.toNat (k + 1) (atB (Zbi f)) (1002, k, 0) = none := by
      show (bif (Nat.ble (k + 1) k && Nat.blt k nB) && Nat.beq 0 0 then _ else none) = _
      rw [show Nat.ble (k + 1) k = false from by rw [Bool.eq_false_iff]; intro h; rw [Nat.ble_eq] at h; omega]; rfl
    ((repeat' ((fail_if_success (show AWp _ _ _ (Code.region 5 _ _) _ _)); first | (refine Zab tok (by rfl) ?_; conv => whnf) | (refine @And.intro (Zaa _ _ _ _) _ ?_ ?_; rotate_left; (conv => whnf); rotate_right))); all_goals (try ((guard_target = Zaa _ _ _ _); refine Zae ?_; (all_goals (try simp only [Zaa, kzz, kz11, kz12, maxL, Zac] at *)); all_goals omega)))
    refine fAV (y := .rs (1002, k, 0) 1 0 f.regs.toNat) (show (bif Nat.ble k (0 + (k : Int).toNat) then AV.rs (1002, 0 + (k : Int).toNat, 0) 1 0 f.regs.toNat else .any) = _ by rw [hz, show Nat.ble k k = true from by rw [Nat.ble_eq]; exact Nat.le_refl k]; rfl) ?_
    conv => whnf
    (repeat' ((fail_if_success (show AWp _ _ _ (Code.region 5 _ _) _ _)); refine Zad ?_))
    refine Zat (Weak.fam (L := []) (tl := [(1, .bp (1, 0, 0) 0), (2, .bp (2, 0, 0) 0), (3, iv k), (4, .rs (902, 0, 0) 1 0 f.regs.toNat), (16, .rs u3 1 0 nB), (17, iv nB), (18, iv k)]) (hl := [((1, 0, 0), .row false 3 1 (fun _ => fcl f)), ((2, 0, 0), Za6 [iv 0, iv 0, .nsl]), ((901, 0, 0), blkR1 (cutB f k)), ((903, 0, 0), rowK nB f.regs.toNat (k + 1)), ((902, 0, 0), Zav f.regs.toNat g0)]) (F := (famK nB f.regs.toNat (k + 1) (atB (Zbi f)))) [((902, 0, 0), some (1002, k, 0))] rfl (fun c hc => by simp only [tgts, List.mem_singleton] at hc; subst hc; exact .inl hout) ?_ ?_ (keepK (fun _ _ => rfl) (fun p h1 hp => ?_)) (fun i hi => by cases hi)) ?_
    · refine .cons (.bp rfl rfl) (.cons (.bp rfl rfl) (.cons (.imm rfl) (.cons ?_ (.cons (.rs rfl rfl rfl rfl) (.cons (.imm rfl) (.cons (.imm rfl) .nil))))))
      exact .rs rfl srcL_hit rfl rfl
    · exact .old rfl rfl (GB.one (.cons (.imm rfl) (.cons (.imm rfl) (.cons (.rs rfl rfl rfl rfl) .nil))) (fun e => by cases e)) (.old rfl rfl (GB.one (GVs.imm rfl) (fun _ => rfl)) (.old rfl rfl (GB_blk1 _) (.old rfl rfl (GB_rowK (Nat.le_succ k) (fun _ _ => rfl) (fun p h1 hp => Zd9 h1 hp)) (.old rfl (Zd9 (Nat.le_refl k) hkn) (GB.rowI (Nat.le_refl _) (fun q hq => ⟨rfl, by rw [hg0]⟩)) .nil))))
    · exact Zd9 (Nat.le_of_succ_le h1) hp
    have hcE : ∀ b', b' = b → FOi 14 [.agg (Zc7 b'.fin)] (Zam b.fin) := fun b' e => by rw [e]; exact c_EndAsks _
    ((repeat' ((fail_if_success (show AWp _ _ _ (Code.region 7 _ _) _ _)); first | refine Zad ?_ | (refine Zab tok (by rfl) ?_; conv => whnf) | (refine @And.intro (Zaa _ _ _ _) _ ?_ ?_; rotate_left; (conv => whnf); rotate_right))); all_goals (try ((guard_target = Zaa _ _ _ _); refine Zae ?_; (all_goals (try simp only [Zaa, kzz, kz11, kz12, maxL, Zac] at *)); all_goals omega)))
    refine .inl ⟨_, _, _, uG (QC.fo (rd := []) (hcE ((cutB f k).getD (0 + (k : Int).toNat) default) hget) (Ress.imms rfl) (.inl rfl) rfl), ?_⟩
    conv => whnf
    (repeat' ((fail_if_success (show AWp _ _ _ (Code.region 7 _ _) _ _)); refine Zaf ?_))
    refine Zar 32 (fun hl => ?_)
    have hle : ((Zam b.fin).length : Int) ≤ 9223372036854775807 := hl.2
    clear hl
    refine Zap (fun j : Nat => mkF [(1, .bp (1, 0, 0) 0), (2, .bp (2, 0, 0) 0), (3, iv k), (4, .rs (902, 0, 0) 1 0 f.regs.toNat), (5, .rp (901, 0, 0) 14 k 0), (16, .rs u3 1 0 nB), (17, iv nB), (18, iv k), (31, .rs (31, 0, 0) 1 0 (Zam b.fin).length), (32, iv (Zam b.fin).length), (33, iv j)] [((1, 0, 0), .row false 3 1 (fun _ => fcl f)), ((2, 0, 0), Za6 [iv 0, iv 0, .nsl]), ((901, 0, 0), blkR1 (cutB f k)), ((903, 0, 0), rowK nB f.regs.toNat (k + 1)), ((902, 0, 0), Zav f.regs.toNat (Zch g0 ((Zam b.fin).take j))), ((31, 0, 0), .row true 1 (Zam b.fin).length (fun i => [iv ((Zam b.fin).getD i 0)]))] (famK nB f.regs.toNat (k + 1) (atB (Zbi f)))) (fun j => j ≤ (Zam b.fin).length) (fun j => (Zam b.fin).length - j) 0 (Nat.zero_le _) ?_ ?_
    · refine Weak.fam [] rfl (fun i hi => by cases hi) ?_ ?_ (keepK (fun _ _ => rfl) (fun p h1 hp => Zd9 h1 hp)) (fun i hi => by cases hi)
      · (repeat' first | exact TLg.nil | refine TLg.cons (GV.imm rfl) ?_ | refine TLg.cons (GV.bp rfl rfl) ?_ | refine TLg.cons (GV.rs rfl rfl ?_ ?_) ?_ | refine TLg.cons (GV.rp rfl rfl ?_) ?_)
        all_goals first | rfl | exact hz
      · exact .old rfl rfl (GB.one (.cons (.imm rfl) (.cons (.imm rfl) (.cons (.rs rfl rfl rfl rfl) .nil))) (fun e => by cases e)) (.old rfl rfl (GB.one (GVs.imm rfl) (fun _ => rfl)) (.old rfl rfl (GB_blk1 _) (.old rfl rfl (GB_rowK (Nat.le_refl _) (fun _ _ => rfl) (fun p h1 hp => Zd9 h1 hp)) (.old rfl rfl (GB.rowI (Nat.le_refl _) (fun q hq => ⟨rfl, rfl⟩)) (.old rfl rfl (GB.rowI (Nat.le_refl _) (fun q hq => ⟨rfl, rfl⟩)) .nil)))))
    intro j hj
    ((repeat' ((fail_if_success (show AWp _ _ _ (Code.region 8 _ _) _ _)); first | refine Zad ?_ | (refine Zab tok (by rfl) ?_; conv => whnf) | refine Zaf ?_ | (refine Zai ?_; conv => whnf) | (refine Zan ?_; conv => whnf) | refine Zah rfl (fun hb => ?_) (fun hb => ?_) | (refine @And.intro (Zaa _ _ _ _) _ ?_ ?_; rotate_left; (conv => whnf); rotate_right))); all_goals (try ((guard_target = Zaa _ _ _ _); refine Zae ?_; (all_goals (try simp only [Zaa, kzz, kz11, kz12, maxL, Zac] at *)); all_goals omega)))
    · have hjl : j < (Zam b.fin).length := by simp only [decide_eq_true_eq] at hb; omega
      clear hb
      have hsucc := Zdu (g := g0) hjl
      have hpj := hok.ends _ (Zcq 0 hjl)
      have hji : (Zam b.fin).getD (0 + (j : Int).toNat) 0 = (Zam b.fin).getD j 0 := by simp
      ((repeat' first | (refine Zab tok (by rfl) ?_; conv => whnf) | (refine @And.intro (Zaa _ _ _ _) _ ?_ ?_; rotate_left; (conv => whnf); rotate_right)); all_goals (try ((guard_target = Zaa _ _ _ _); refine Zae ?_; (all_goals (try simp only [Zaa, kzz, kz11, kz12, maxL, Zac] at *)); all_goals omega)))
      refine ⟨j + 1, hjl, by omega, ?_⟩
      refine Weak.fam [] rfl (fun i hi => by cases hi) ?_ ?_ (keepK (fun _ _ => rfl) (fun p h1 hp => Zd9 h1 hp)) (fun i hi => by cases hi)
      · (repeat' first | exact TLg.nil | refine TLg.cons (GV.imm rfl) ?_ | refine TLg.cons (GV.bp rfl rfl) ?_ | refine TLg.cons (GV.rs rfl rfl ?_ ?_) ?_ | refine TLg.cons (GV.int ?_) ?_)
        all_goals first | rfl | exact wrap64 (by omega) (by omega)
      · refine .old rfl rfl (GB.one (.cons (.imm rfl) (.cons (.imm rfl) (.cons (.rs rfl rfl rfl rfl) .nil))) (fun e => by cases e)) (.old rfl rfl (GB.one (GVs.imm rfl) (fun _ => rfl)) (.old rfl rfl (GB_blk1 _) (.old rfl rfl (GB_rowK (Nat.le_refl _) (fun _ _ => rfl) (fun p h1 hp => Zd9 h1 hp)) (.old rfl rfl (GB.row (Nat.le_refl _) (fun q hq => GVs.eqI rfl ?_) (fun _ _ _ => rfl)) (.old rfl rfl (GB.rowI (Nat.le_refl _) (fun q hq => ⟨rfl, rfl⟩)) .nil)))))
        rw [hsucc]
        exact upRow (by rw [Nat.zero_add]; exact congrArg Int.toNat hji)
    · have hjl : j = (Zam b.fin).length := by simp only [decide_eq_false_iff_not] at hb; omega
      clear hb
      subst hjl
      rw [List.take_length]
      rw [← hEn]
      have hcC : ∀ b', b' = b → HC Try.prog [k0] 15 [(k0, Zav f.regs.toNat (gEnds f k))] [inss b'.ins, .rs k0 1 0 f.regs.toNat] (.rs k5 7 0 (blkC f k).ins.length) [(k0, Zav f.regs.toNat (cleanG b.ins (gEnds f k))), (k5, insR (blkC f k).ins)] := fun b' e => by
        have e2 : (blkC f k).ins = cleanL b.ins (gEnds f k) := by unfold blkC; rw [hbk]
        rw [e, e2]
        exact c_cleaned b.ins f.regs.toNat (gEnds f k) (fun x hx p hp => by have := hok.asks x hx p hp; omega) (fun x hx h => by have := hok.sets x hx h; omega)
      have hget2 : (cutB f k).getD k default = b := by rw [hz] at hget; exact hget
      skip
      refine .inr ⟨_, _, _, uG (QH.of (dead := []) [(k0, .old (902, 0, 0), Zav f.regs.toNat (gEnds f k))] (hcC ((cutB f k).getD k default) hget2) rfl (.old rfl (BLe.refl _) .nil) (.cons (.eq rfl) (.cons (.eq rfl) .nil)) [(k0, (902, 0, 0)), (k5, (47, 0, 0))] rfl (.cons rfl (BLe.refl _) (.cons rfl (BLe.refl _) .nil)) rfl), ?_⟩
      conv => whnf
      ((repeat' first | (refine Zab tok (by rfl) ?_; conv => whnf) | (refine @And.intro (Zaa _ _ _ _) _ ?_ ?_; rotate_left; (conv => whnf); rotate_right)); all_goals (try ((guard_target = Zaa _ _ _ _); refine Zae ?_; (all_goals (try simp only [Zaa, kzz, kz11, kz12, maxL, Zac] at *)); all_goals omega)))
      refine ⟨k + 1, hkn, by omega, ?_⟩
      refine Weak.fam [] rfl (fun i hi => by cases hi) ?_ ?_ (keepK (fun _ _ => rfl) (fun p h1 hp => ?_)) (fun i hi => by cases hi)
      · (repeat' first | exact TLg.nil | refine TLg.cons (GV.imm rfl) ?_ | refine TLg.cons (GV.bp rfl rfl) ?_ | refine TLg.cons (GV.rs rfl rfl ?_ ?_) ?_ | refine TLg.cons (GV.int ?_) ?_)
        all_goals first | rfl | exact wrap64 (by omega) (by omega)
      · refine .old rfl rfl (GB.one (.cons (.imm rfl) (.cons (.imm rfl) (.cons (.rs rfl rfl rfl rfl) .nil))) (fun e => by cases e)) (.old rfl rfl (GB.one (GVs.imm rfl) (fun _ => rfl)) (.old rfl rfl (GB.row (Nat.le_of_eq (by rw [Zcs, Zcs])) (fun q hq => GVs.upd (fun e => ?_) (fun e => ?_)) (fun _ _ _ => rfl)) (.old rfl rfl (GB_rowK (Nat.le_refl _) (fun _ _ => rfl) (fun p h1 hp => Zd9 h1 hp)) .nil)))
        · rw [Zcs] at hq
          have e3 : { b with ins := (blkC f k).ins } = blkC f k := by unfold blkC; rw [hbk]
          rw [e, show (cutB f (k + 1)).getD k default = blkC f k from (cutB_at hkl).trans (if_pos (Nat.lt_succ_self k)), hget2, ← e3]
          generalize (blkC f k).ins = L
          exact .cons (.imm rfl) (.cons (.imm rfl) (.cons (.imm rfl) (.cons (.imm rfl) (.cons (.imm rfl) (.cons (.frz (hd_of rfl (fun j hj => by obtain ⟨b, hb⟩ := Option.isSome_iff_exists.1 hj; obtain ⟨p, rfl, _⟩ := famK_some hb; exact fun h => by cases h)) rfl (Nat.le_of_eq (Nat.zero_add _)) rfl (fun x hx => GVs.eqI rfl (by rw [Nat.zero_add]; rfl)) (fun _ _ => rfl)) (GVs.imm rfl))))))
        · rw [Zcs] at hq
          refine GVs.eqI rfl ?_
          rw [cutB_at hq, cutB_at hq]
          by_cases h1 : q < k
          · rw [if_pos h1, if_pos (by omega)]
          · rw [if_neg h1, if_neg (by omega)]
      · show Option.map _ (famK nB f.regs.toNat (k + 1) (atB (Zbi f)) (1002, p, 0)) = _
        rw [Zd9 h1 hp]; rfl
  · have hkn : k = nB := by simp only [decide_eq_false_iff_not] at hb; omega
    clear hb
    subst hkn
    refine ⟨_, rfl, ?_⟩
    rw [hidl]
    exact Rel.agg (.cons (Rel.int rfl) (.cons (Rel.int rfl) (.cons (Rel.row rfl (Zcs f k).symm (Zcs f k).symm (fun z _ => rfl)) .nil)))
end Go.Proofs.Ytbcocllokcimeaa
namespace Go.Proofs.Ytbcocllokcimeaa
open Go Dv
set_option maxRecDepth 10000
set_option linter.unusedSimpArgs false
end Go.Proofs.Ytbcocllokcimeaa
namespace Go.Proofs.Ytbcocllokcimeaa
open Go Dv
set_option maxRecDepth 10000
set_option linter.unusedSimpArgs false
end Go.Proofs.Ytbcocllokcimeaa
namespace Go.Proofs.Ytbcocllokcimeaa
open Go Dv
set_option maxRecDepth 10000
set_option linter.unusedSimpArgs false
end Go.Proofs.Ytbcocllokcimeaa
namespace Go.Proofs.Ytbcocllokcimeaa
open Go Dv
set_option maxRecDepth 10000
set_option linter.unusedSimpArgs false
theorem _root_.Dv.TLe.ib {R : Dv.Rows} {k : IntKind} {n m : Int} {b c : Bool} (h1 : n = m) (h2 : b = c) : TLe R (.tup [.int k n, .bool b]) (.tup [.int k m, .bool c]) := by
  subst h1; subst h2; exact .eq rfl
end Go.Proofs.Ytbcocllokcimeaa
namespace Go.Proofs.Ytbcocllokcimeaa
open Go Dv
set_option maxRecDepth 10000
set_option linter.unusedSimpArgs false
structure Deed where
  op : Int
  a : Int
  b : Int
deriving DecidableEq, Inhabited
def Deed.l (d : Deed) : List Int := [d.op, d.a, d.b]
abbrev κS : MK := ⟨true, 3, .i64, .i64⟩
def hit (p : Int) (q : List Int × Int) : Bool := decide (q.1.getD 1 0 = p) || decide (q.1.getD 2 0 = p) || decide (q.2 = p)
def forgetM (m : List (List Int × Int)) (p : Int) : List (List Int × Int) := m.filter fun q => !hit p q
structure FInv (m : List (List Int × Int)) (p : Int) (clock : Nat) (es : Array MapEntry) (seen : Array Nat) (m' : List (List Int × Int)) : Prop where
  ok : MOk κS m' es clock
  same : forgetM m' p = forgetM m p
  past : ∀ e ∈ es.toList, seen.contains e.born = true → ∀ k v, (k, v) ∈ m' → e.key = keyV κS k → hit p (k, v) = false
theorem FInv.done {m : List (List Int × Int)} {p : Int} {clock : Nat} {es : Array MapEntry} {seen : Array Nat} {m' : List (List Int × Int)} (h : FInv m p clock es seen m') (h0 : (leftOf es seen).size = 0) : MOk κS (forgetM m p) es clock := by
  rw [← h.same]
  have : forgetM m' p = m' := List.filter_eq_self.2 (fun q hq => by
    have h1 : (keyV κS q.1, Value.int .i64 q.2) ∈ m'.map (fun p => (keyV κS p.1, Value.int κS.vk p.2)) := List.mem_map.2 ⟨q, hq, rfl⟩
    rw [← h.ok.kv] at h1
    obtain ⟨e, he, h2⟩ := List.mem_map.1 h1
    have h3 := Prod.mk.inj h2
    rw [h.past e he (all_seen es seen h0 e he) q.1 q.2 hq h3.1]; rfl)
  rw [this]; exact h.ok
end Go.Proofs.Ytbcocllokcimeaa
namespace Go.Proofs.Ytbcocllokcimeaa
open Go Dv
set_option maxRecDepth 10000
set_option linter.unusedSimpArgs false
section
variable (B : Zb0 → Zb0)
def mapB (l : List Zb0) (k : Nat) : List Zb0 := (List.range l.length).map fun q => if q < k then B (l.getD q default) else l.getD q default
end
theorem range_getD {α : Type} (d : α) (f : Nat → α) {n i : Nat} (h : i < n) : ((List.range n).map f).getD i d = f i := by
  simp [List.getD_eq_getElem?_getD, h]
def errM (m : Zbh) : Int := if rightB m = true then 0 else 1
end Go.Proofs.Ytbcocllokcimeaa
namespace Go.Proofs.Ytbcocllokcimeaa
open Go Dv
set_option maxRecDepth 10000
set_option linter.unusedSimpArgs false
end Go.Proofs.Ytbcocllokcimeaa
namespace Go.Proofs.Ytbcocllokcimeaa
open Go Dv
set_option maxRecDepth 10000
set_option linter.unusedSimpArgs false
end Go.Proofs.Ytbcocllokcimeaa
namespace Go.Proofs.Ytbcocllokcimeaa
open Go Dv
set_option maxRecDepth 10000
set_option linter.unusedSimpArgs false
theorem c_Copy0 (fs : List Func) : HF Try.prog 12 [.agg (Zb4 ⟨fs⟩)] (.agg [.rs (900, 0, 0) 3 0 fs.length]) (Za9 [((900, 0, 0), .row true 3 fs.length (fun j => Zau (fs.getD j default)))]) := by
  refine (c_Copy1 fs).weak (fun j => some j) (fun j j' i _ _ h1 h2 => some_inj j j' i h1 h2) (fun j b e => ?_) (.agg (.cons (.rs (b := .row true 3 fs.length (fun j => Zau (fs.getD j default))) rfl rfl rfl rfl) .nil))
  have hj : j = (900, 0, 0) ∧ b = .row true 3 fs.length (fun j => Zau (fs.getD j default)) := by
    simp only [Za9] at e
    cases e2 : idEq (900, 0, 0) j with
    | false => rw [e2] at e; cases e
    | true => have := Za5.1 e2; subst this; rw [e2] at e; cases e; exact ⟨rfl, rfl⟩
  obtain ⟨rfl, rfl⟩ := hj
  refine HOk.mk rfl (b0 := funR1 fs (mem1 fs)) rfl (GB.row (Nat.le_refl _) (fun j hj => .cons (.imm rfl) (.cons (.imm rfl) (.cons ?_ .nil))) (fun _ _ _ => rfl))
  exact .frz (k := (fs.getD j default).blocks.length) (f := fun q => Zax ((fs.getD j default).blocks.getD q default)) (imm := true) (fun j hj e => by cases e; cases hj) (modH1_at hj) (Nat.le_of_eq (Nat.zero_add _)) rfl (fun x hx => GVs.eqI rfl (by rw [Nat.zero_add])) (fun _ _ => rfl)
end Go.Proofs.Ytbcocllokcimeaa
namespace Go.Proofs.Ytbcocllokcimeaa
open Go Dv
set_option maxRecDepth 10000
set_option linter.unusedSimpArgs false
noncomputable def idleM (m : Zbh) : Zbh := if rightB m = true then ⟨m.funcs.map Zbu⟩ else m
noncomputable def curX (l : List Func) (n : Nat) : List Func := (List.range l.length).map fun j => if j < n then Zbu (l.getD j default) else l.getD j default
theorem curX_len (l : List Func) (n : Nat) : (curX l n).length = l.length := by simp [curX]
theorem curX_at {l : List Func} {n q : Nat} (h : q < l.length) : (curX l n).getD q default = if q < n then Zbu (l.getD q default) else l.getD q default := range_getD _ _ h
theorem curX_zero (l : List Func) : curX l 0 = l := by
  refine Zc2 default (by simp [curX]) (fun i hi => ?_)
  rw [curX_len] at hi
  rw [curX_at hi, if_neg (Nat.not_lt_zero i)]
theorem curX_all (l : List Func) : curX l l.length = l.map Zbu := by
  refine Zc2 default (by simp [curX]) (fun i hi => ?_)
  rw [curX_len] at hi
  rw [curX_at hi, if_pos hi]
  rw [List.getD_eq_getElem?_getD (l := l.map Zbu), List.getElem?_map, List.getElem?_eq_getElem hi, Zbz default hi]; rfl
set_option maxHeartbeats 2000000 in
theorem c_idleM (m : Zbh) : FC Try.prog 8 [.agg (Zb4 m)] (.tup [.agg (Zb4 (idleM m)), iv (errM m)]) := by
  obtain ⟨fs⟩ := m
  refine Za1 tok Try.func8 rfl (by decide +kernel) (Nat.le_of_ble_eq_true rfl) ?_
  refine Zar 0 (fun hl => ?_)
  have hl0 : fs.length ≤ maxL := hl.1.1
  have hmx : maxL = 4294967296 := rfl
  clear hl
  (repeat' first | refine Zad ?_ | (refine Zab tok (by rfl) ?_; conv => whnf))
  refine .inr ⟨_, _, _, uG (QH.ofF (c_Copy0 fs) rfl (fun i hi => by
    have : i = (900, 0, 0) := by
      simp only [Za9] at hi
      cases e2 : idEq (900, 0, 0) i with
      | false => rw [e2] at hi; cases hi
      | true => exact (Za5.1 e2).symm
    subst this; rfl)), ?_⟩
  conv => whnf
  (repeat' first | refine Zad ?_ | (refine Zab tok (by rfl) ?_; conv => whnf))
  refine .inl ⟨_, _, _, uG (QC.sc (rd := [(900, 0, 0)]) (c_lRight c_lpad ⟨fs⟩) (.cons (.agg (.cons (.row rfl (.head _) rfl rfl (fun _ _ => rfl)) .nil)) .nil) rfl), ?_⟩
  conv => whnf
  (repeat' ((fail_if_success (show AWp _ _ _ (Code.region 4 _ _) _ _)); first | refine Zad ?_ | (refine Zab tok (by rfl) ?_; conv => whnf) | (refine Zai ?_; conv => whnf) | (refine Zaj ?_; conv => whnf) | refine Zah rfl (fun hb => ?_) (fun hb => ?_)))
  · have hr : rightB ⟨fs⟩ = false := by simpa using hb
    skip
    refine ⟨_, rfl, Rel.tup (.cons (Rel.agg (.cons ?_ .nil)) (.cons (Rel.int (by simp [errM, hr])) .nil))⟩
    rw [show idleM ⟨fs⟩ = ⟨fs⟩ from by simp [idleM, hr]]
    exact Rel.row rfl rfl rfl (fun z _ => rfl)
  have hr : rightB ⟨fs⟩ = true := by simpa using hb
  clear hb
  (repeat' ((fail_if_success (show AWp _ _ _ (Code.region 5 _ _) _ _)); first | (refine Zab tok (by rfl) ?_; conv => whnf) | refine Zaf ?_))
  refine Zap (fun i : Nat => mkF [(1, .bp (1, 0, 0) 0), (2, .bp (2, 0, 0) 0), (13, .rs (900, 0, 0) 3 0 fs.length), (14, iv fs.length), (15, iv i)] [((1, 0, 0), .row false 1 1 (fun _ => [.rs (900, 0, 0) 3 0 fs.length])), ((2, 0, 0), Za6 [.nsl]), ((900, 0, 0), .row true 3 fs.length (fun j => Zau ((curX fs i).getD j default)))] noH) (fun i => i ≤ fs.length) (fun i => fs.length - i) 0 (Nat.zero_le _) ?_ ?_
  · refine Weak.fam [] rfl (fun i hi => by cases hi) ?_ ?_ noF (fun i hi => by cases hi)
    · (repeat' first | exact TLg.nil | refine TLg.cons (GV.imm rfl) ?_ | refine TLg.cons (GV.bp rfl rfl) ?_ | refine TLg.cons (GV.rs rfl rfl ?_ ?_) ?_)
      all_goals rfl
    · refine .old rfl rfl (GB.one (.cons (.rs rfl rfl rfl rfl) .nil) (fun e => by cases e)) (.old rfl rfl (GB.one (GVs.imm rfl) (fun _ => rfl)) (.old rfl rfl (GB.rowI (Nat.le_refl _) (fun q hq => ⟨rfl, ?_⟩)) .nil))
      rw [curX_zero]
  intro i hi
  (repeat' ((fail_if_success (show AWp _ _ _ (Code.region 6 _ _) _ _)); first | refine Zad ?_ | (refine Zab tok (by rfl) ?_; conv => whnf) | refine Zaf ?_ | (refine Zai ?_; conv => whnf) | (refine Zan ?_; conv => whnf) | (refine Zaj ?_; conv => whnf) | refine Zah rfl (fun hb => ?_) (fun hb => ?_)))
  · have hlt : i < fs.length := by simp only [decide_eq_true_eq] at hb; omega
    clear hb
    have hz : 0 + (i : Int).toNat = i := by simp
    have hget : (curX fs i).getD (0 + (i : Int).toNat) default = fs.getD i default := by
      rw [hz, curX_at hlt, if_neg (Nat.lt_irrefl i)]
    have hcall : ∀ g, g = fs.getD i default → FC Try.prog 7 [.agg (Zau g)] (.agg (Zau (Zbu (fs.getD i default)))) := fun g e => by rw [e]; exact c_idleF _
    ((repeat' ((fail_if_success (show AWp _ _ _ (Code.region 8 _ _) _ _)); first | (refine Zab tok (by rfl) ?_; conv => whnf) | (refine Za2 tok mix (by rfl) ?_; conv => whnf) | (refine @And.intro (Zaa _ _ _ _) _ ?_ ?_; rotate_left; (conv => whnf); rotate_right))); all_goals (try ((guard_target = Zaa _ _ _ _); refine Zae ?_; (all_goals (try simp only [Zaa, kzz, kz11, kz12, maxL, Zac] at *)); all_goals omega)))
    refine .inl ⟨_, _, _, uG (QC.fc (hcall ((curX fs i).getD (0 + (i : Int).toNat) default) hget) rfl), ?_⟩
    conv => whnf
    ((repeat' first | (refine Zab tok (by rfl) ?_; conv => whnf) | (refine @And.intro (Zaa _ _ _ _) _ ?_ ?_; rotate_left; (conv => whnf); rotate_right)); all_goals (try ((guard_target = Zaa _ _ _ _); refine Zae ?_; (all_goals (try simp only [Zaa, kzz, kz11, kz12, maxL, Zac] at *)); all_goals omega)))
    refine ⟨i + 1, hlt, by omega, ?_⟩
    refine Weak.fam [] rfl (fun i hi => by cases hi) ?_ ?_ noF (fun i hi => by cases hi)
    · (repeat' first | exact TLg.nil | refine TLg.cons (GV.imm rfl) ?_ | refine TLg.cons (GV.bp rfl rfl) ?_ | refine TLg.cons (GV.rs rfl rfl ?_ ?_) ?_ | refine TLg.cons (GV.int ?_) ?_)
      all_goals first | rfl | exact wrap64 (by omega) (by omega)
    · refine .old rfl rfl (GB.one (.cons (.rs rfl rfl rfl rfl) .nil) (fun e => by cases e)) (.old rfl rfl (GB.one (GVs.imm rfl) (fun _ => rfl)) (.old rfl rfl (GB.row (Nat.le_refl _) (fun q hq => GVs.upd (fun e => ?_) (fun e => ?_)) (fun _ _ _ => rfl)) .nil))
      · rw [hz] at e; subst e
        refine GVs.eqI rfl ?_
        rw [curX_at hq, if_pos (Nat.lt_succ_self q)]; rfl
      · rw [hz] at e
        refine GVs.eqI rfl ?_
        rw [curX_at hq, curX_at hq]
        by_cases h1 : q < i
        · rw [if_pos h1, if_pos (by omega)]
        · rw [if_neg h1, if_neg (by omega)]
  · have hil : i = fs.length := by simp only [decide_eq_false_iff_not] at hb; omega
    clear hb
    subst hil
    skip
    refine ⟨_, rfl, Rel.tup (.cons (Rel.agg (.cons ?_ .nil)) (.cons (Rel.int (by simp [errM, hr])) .nil))⟩
    rw [show idleM ⟨fs⟩ = ⟨fs.map Zbu⟩ from by unfold idleM; rw [if_pos hr], ← curX_all]
    exact Rel.row rfl rfl (curX_len _ _).symm (fun z _ => rfl)
end Go.Proofs.Ytbcocllokcimeaa
namespace Go.Proofs.Ytbcocllokcimeaa
open Go Dv
set_option maxRecDepth 10000
set_option linter.unusedSimpArgs false
noncomputable def cntB (a : Int) (l : List Zb0) : Int := l.foldl (fun a b => IntKind.i64.wrap (a + b.ins.length)) a
noncomputable def cntF (a : Int) (l : List Func) : Int := l.foldl (fun a f => cntB a f.blocks) a
theorem cntB_succ {a : Int} {l : List Zb0} {j : Nat} (h : j < l.length) : cntB a (l.take (j + 1)) = IntKind.i64.wrap (cntB a (l.take j) + (l.getD j default).ins.length) := by
  unfold cntB; rw [Zca default h, List.foldl_append]; rfl
theorem cntF_succ {a : Int} {l : List Func} {j : Nat} (h : j < l.length) : cntF a (l.take (j + 1)) = cntB (cntF a (l.take j)) (l.getD j default).blocks := by
  unfold cntF; rw [Zca default h, List.foldl_append]; rfl
set_option maxHeartbeats 2000000 in
theorem c_Count (m : Zbh) : FC Try.prog 9 [.agg (Zb4 m)] (iv (cntF 0 m.funcs)) := by
  obtain ⟨fs⟩ := m
  refine Za1 tok Try.func9 rfl (by decide +kernel) (Nat.le_of_ble_eq_true rfl) ?_
  refine Zar 0 (fun hl => ?_)
  have hl0 : fs.length ≤ maxL := hl.1.1
  have hmx : maxL = 4294967296 := rfl
  have hl1 : ∀ i, i < fs.length → (fs.getD i default).blocks.length ≤ maxL := fun i hi => (hl.1.2 i hi).2.2.1.1
  clear hl
  (repeat' ((fail_if_success (show AWp _ _ _ (Code.region 3 _ _) _ _)); first | refine Zad ?_ | (refine Zab tok (by rfl) ?_; conv => whnf) | refine Zaf ?_))
  refine Zap (fun i : Nat => mkS [(3, iv (cntF 0 (fs.take i))), (9, .sl 3 fs.length fun i => Zau (fs.getD i default)), (10, iv fs.length), (11, iv i)] []) (fun i => i ≤ fs.length) (fun i => fs.length - i) 0 (Nat.zero_le _) ?_ ?_
  · refine Weak.list [] rfl (by rfl) ?_ .nil
    ((repeat' first | exact TLes.nil | refine TLes.cons (TLe.eq rfl) ?_); skip)
  intro i hi
  (repeat' ((fail_if_success (show AWp _ _ _ (Code.region 4 _ _) _ _)); first | refine Zad ?_ | (refine Zab tok (by rfl) ?_; conv => whnf) | refine Zaf ?_ | (refine Zai ?_; conv => whnf) | (refine Zan ?_; conv => whnf) | (refine Zaj ?_; conv => whnf) | refine Zah rfl (fun hb => ?_) (fun hb => ?_)))
  · have hlt : i < fs.length := by simp only [decide_eq_true_eq] at hb; omega
    clear hb
    have hz : 0 + (i : Int).toNat = i := by simp
    have hz2 : (i : Int).toNat = i := by simp
    have hbl := hl1 i hlt
    have hgen : ∃ f, fs.getD i default = f := ⟨_, rfl⟩
    obtain ⟨f, hf⟩ := hgen
    rw [hf] at hbl
    have hs := cntF_succ (a := 0) hlt
    rw [hf] at hs
    ((repeat' ((fail_if_success (show AWp _ _ _ (Code.region 6 _ _) _ _)); first | refine Zad ?_ | (refine Zab tok (by rfl) ?_; conv => whnf) | refine Zaf ?_ | (refine @And.intro (Zaa _ _ _ _) _ ?_ ?_; rotate_left; (conv => whnf); rotate_right))); all_goals (try ((guard_target = Zaa _ _ _ _); refine Zae ?_; (all_goals (try simp only [Zaa, kzz, kz11, kz12, maxL, Zac] at *)); all_goals omega)))
    refine Zap (fun j : Nat => mkS [(3, iv (cntB (cntF 0 (fs.take i)) (f.blocks.take j))), (9, .sl 3 fs.length fun i => Zau (fs.getD i default)), (10, iv fs.length), (11, iv i), (16, Zce f.blocks), (17, iv f.blocks.length), (18, iv j)] []) (fun j => j ≤ f.blocks.length) (fun j => f.blocks.length - j) 0 (Nat.zero_le _) ?_ ?_
    · rw [← hf]
      refine Weak.list [] rfl (by rfl) ?_ .nil
      ((repeat' first | exact TLes.nil | refine TLes.cons (TLe.eq rfl) ?_); skip)
    intro j hj
    (repeat' ((fail_if_success (show AWp _ _ _ (Code.region 7 _ _) _ _)); first | refine Zad ?_ | (refine Zab tok (by rfl) ?_; conv => whnf) | refine Zaf ?_ | (refine Zai ?_; conv => whnf) | (refine Zan ?_; conv => whnf) | refine Zah rfl (fun hb => ?_) (fun hb => ?_)))
    · have hjl : j < f.blocks.length := by simp only [decide_eq_true_eq] at hb; omega
      clear hb
      have hzj : (j : Int).toNat = j := by simp
      ((repeat' first | (refine Zab tok (by rfl) ?_; conv => whnf) | (refine @And.intro (Zaa _ _ _ _) _ ?_ ?_; rotate_left; (conv => whnf); rotate_right)); all_goals (try ((guard_target = Zaa _ _ _ _); refine Zae ?_; (all_goals (try simp only [Zaa, kzz, kz11, kz12, maxL, Zac] at *)); all_goals omega)))
      refine ⟨j + 1, hjl, by omega, ?_⟩
      rw [cntB_succ hjl]
      refine Weak.list [] rfl (by rfl) ?_ .nil
      ((repeat' first | exact TLes.nil | refine TLes.cons (TLe.eq rfl) ?_ | refine TLes.cons (TLe.int ?_) ?_); (all_goals first | ((try (simp only [Zaa, kzz, kz11, kz12, maxL, Zac] at *)); exact wrap64 (by omega) (by omega)) | skip))
    · have hjl : j = f.blocks.length := by simp only [decide_eq_false_iff_not] at hb; omega
      clear hb
      subst hjl
      skip
      refine ⟨i + 1, hlt, by omega, ?_⟩
      rw [hs, List.take_length]
      refine Weak.list [] rfl (by rfl) ?_ .nil
      ((repeat' first | exact TLes.nil | refine TLes.cons (TLe.eq rfl) ?_ | refine TLes.cons (TLe.int ?_) ?_); (all_goals first | ((try (simp only [Zaa, kzz, kz11, kz12, maxL, Zac] at *)); exact wrap64 (by omega) (by omega)) | skip))
  · have hil : i = fs.length := by simp only [decide_eq_false_iff_not] at hb; omega
    clear hb
    subst hil
    skip
    exact ⟨_, rfl, Rel.int (by rw [List.take_length])⟩
inductive Cln : List Ins → List Ins → Prop
  | nil : Cln [] []
  | keep {x : Ins} {a b : List Ins} (h : Cln a b) : Cln (x :: a) (x :: b)
  | drop {x : Ins} {a b : List Ins} (hx : mayB x = true) (h : Cln a b) : Cln a (x :: b)
theorem Cln.refl : ∀ l : List Ins, Cln l l
  | [] => .nil
  | _ :: l => .keep (Cln.refl l)
theorem idle_may {x : Ins} {g : Nat → Bool} (h : idleX x g = true) : mayB x = true := by
  unfold idleX at h
  rw [Bool.or_eq_true, Bool.and_eq_true, decide_eq_true_eq] at h
  rcases h with h | h
  · unfold mayB; simp [h.1]
  · exact h.1
theorem Cln.clean (g : Nat → Bool) : ∀ l : List Ins, Cln (cleanL l g) l
  | [] => .nil
  | x :: l => by
      have ih := Cln.clean g l
      have e : cleanS (x :: l) g = stepC x (cleanS l g) := rfl
      unfold cleanL at ih ⊢
      rw [e]
      unfold stepC
      split
      · rename_i h; exact .drop (idle_may h) ih
      · rw [List.reverse_append]; exact .keep ih
def GI (now l : List Ins) (i t : Nat) : Prop := ∃ κ, Cln (now.drop κ) (l.drop i) ∧ κ ≤ t ∧ t ≤ now.length ∧ ∀ j, κ ≤ j → j < t → mayB (now.getD j default) = true
theorem GI.zero {now l : List Ins} (h : Cln now l) : GI now l 0 0 := ⟨0, h, Nat.le_refl _, Nat.zero_le _, fun j _ h => absurd h (Nat.not_lt_zero j)⟩
theorem GI.inv {now l : List Ins} {i κ : Nat} (hi : i < l.length) (h : Cln (now.drop κ) (l.drop i)) :
    (κ < now.length ∧ now.getD κ default = l.getD i default ∧ Cln (now.drop (κ + 1)) (l.drop (i + 1))) ∨ (mayB (l.getD i default) = true ∧ Cln (now.drop κ) (l.drop (i + 1))) := by
  rw [Zd3 default hi] at h
  generalize ha : now.drop κ = a at h
  cases h with
  | drop hx h2 => exact .inr ⟨hx, h2⟩
  | keep h2 =>
    have hk : κ < now.length := by
      rcases Nat.lt_or_ge κ now.length with h | h
      · exact h
      · rw [List.drop_eq_nil_of_le h] at ha; cases ha
    rw [Zd3 default hk] at ha
    injection ha with e1 e2
    exact .inl ⟨hk, e1, by rw [e2]; exact h2⟩
theorem GI.hit {now l : List Ins} {i t : Nat} (h : GI now l i t) (hi : i < l.length) (ht : t < now.length) (he : now.getD t default = l.getD i default) : GI now l (i + 1) (t + 1) := by
  obtain ⟨κ, h1, h2, h3, h4⟩ := h
  rcases GI.inv hi h1 with ⟨k1, k2, k3⟩ | ⟨k1, k2⟩
  · refine ⟨κ + 1, k3, by omega, ht, fun j a b => ?_⟩
    by_cases e : j = t
    · subst e
      have := h4 κ (Nat.le_refl _) (by omega)
      rw [he, ← k2]; exact this
    · exact h4 j (by omega) (by omega)
  · refine ⟨κ, k2, by omega, ht, fun j a b => ?_⟩
    by_cases e : j = t
    · subst e; rw [he]; exact k1
    · exact h4 j a (by omega)
theorem GI.all {now l : List Ins} {t : Nat} (h : GI now l l.length t) : t = now.length := by
  obtain ⟨κ, h1, h2, h3, _⟩ := h
  rw [List.drop_length] at h1
  generalize ha : now.drop κ = a at h1
  cases h1
  have := List.drop_eq_nil_iff.1 ha
  omega
theorem idleF_len (f : Func) : (Zbu f).blocks.length = f.blocks.length := Zcs _ _
end Go.Proofs.Ytbcocllokcimeaa
namespace Go.Proofs.Ytbcocllokcimeaa
open Go Dv
set_option maxRecDepth 10000
set_option linter.unusedSimpArgs false
def aw18x : Ins := ⟨1, 0, 0, 0, 1, 0, []⟩
def aw18y : Ins := ⟨1, 0, 0, 0, 2, 0, []⟩
def aw18e : End := ⟨1, 0, 0, 0, [], 0, 0, 0⟩
def aw18p : Pad := ⟨0, [], false, false⟩
def aw18B : Zb0 := ⟨false, aw18p, [aw18x, aw18y], aw18e⟩
def aw18C : Zb0 := ⟨false, aw18p, [aw18y], aw18e⟩
def Zea : Func := ⟨0, 1, [aw18B]⟩
def aw18G : Func := ⟨0, 1, [aw18C]⟩
theorem aw18_F : Zbu Zea = aw18G := by
  have hw : Zb8 Zea = true := by decide +kernel
  have hn : (Zbi Zea).length = 1 := by
    unfold Zbi; rw [if_pos hw]
    exact (Zdf Zea _).1.l2
  have hb : blkC Zea 0 = aw18C := by
    have hg : gEnds Zea 0 = upT (atB (Zbi Zea) 0) 0 true := rfl
    unfold blkC
    rw [hg]
    have hc : cleanL [aw18x, aw18y] (upT (atB (Zbi Zea) 0) 0 true) = [aw18y] := by
      generalize atB (Zbi Zea) 0 = g
      have e1 : stepC aw18y ([], upT g 0 true) = ([aw18y], Zc0 aw18y (upT g 0 true)) := rfl
      have e2 : stepC aw18x ([aw18y], Zc0 aw18y (upT g 0 true)) = ([aw18y], Zc0 aw18y (upT g 0 true)) := rfl
      show (stepC aw18x (stepC aw18y ([], upT g 0 true))).1.reverse = _
      rw [e1, e2]; rfl
    show Zb0.mk _ _ (cleanL [aw18x, aw18y] _) _ = _
    rw [hc]; rfl
  have hx : cutB Zea 1 = [aw18C] := by
    show (List.range 1).map (fun q => if q < 1 then blkC Zea q else Zea.blocks.getD q default) = _
    show [if 0 < 1 then blkC Zea 0 else _] = _
    rw [if_pos Nat.zero_lt_one, hb]
  unfold Zbu
  rw [hn, hx]; rfl
theorem aw18_M : idleM ⟨[Zea]⟩ = ⟨[aw18G]⟩ := by
  unfold idleM
  rw [if_pos (by decide +kernel)]
  simp only [List.map_cons, List.map_nil, aw18_F]
set_option maxHeartbeats 2000000 in
theorem c_awake18 : FC Try.prog 4 [] (.bool true) := by
  refine Za1 tok Try.func4 rfl (by decide +kernel) (Nat.le_of_ble_eq_true rfl) ?_
  (repeat' ((fail_if_success (show AWp _ _ _ (Code.region 2 _ _) _ _)); first | refine Zad ?_ | (refine Zab tok (by rfl) ?_; conv => whnf)))
  refine Zat (Weak.fam (tl := [(1, .bp (1, 0, 0) 0)]) (hl := [((1, 0, 0), .row true 1 1 (fun _ => Zb4 ⟨[Zea]⟩))]) (F := noH) [] rfl (fun i hi => by cases hi) (.cons (.bp rfl rfl) .nil) (.old rfl rfl (GB.one ?_ (fun _ => rfl)) .nil) noF (fun i hi => by cases hi)) ?_
  · (repeat' first | exact GVs.nil | exact lt0 | refine ltS ?_ ?_ | ((conv => arg 4; whnf); (conv => arg 5; whnf); first | refine GVs.cons (GV.imm rfl) ?_ | refine GVs.cons (GV.wk rfl (.nsl rfl)) ?_ | refine GVs.cons (GV.frz (hd_no rfl) rfl (Nat.le_of_ble_eq_true rfl) rfl ?_ ?_) ?_) | exact (show Zby _ = true from rfl))
  have h1 : FC Try.prog 8 [.agg (Zb4 ⟨[Zea]⟩)] (.tup [.agg (Zb4 ⟨[aw18G]⟩), iv 0]) := by
    have := c_idleM ⟨[Zea]⟩
    rw [aw18_M, show errM ⟨[Zea]⟩ = 0 from by decide +kernel] at this; exact this
  have h2 : FC Try.prog 9 [.agg (Zb4 ⟨[Zea]⟩)] (iv 2) := by
    have := c_Count ⟨[Zea]⟩
    rw [show cntF 0 (Zbh.funcs ⟨[Zea]⟩) = 2 from by
      simp only [cntF, cntB, List.foldl_cons, List.foldl_nil]
      show IntKind.i64.wrap (0 + ((2 : Nat) : Int)) = 2
      decide] at this; exact this
  have h3 : FC Try.prog 9 [.agg (Zb4 ⟨[aw18G]⟩)] (iv 1) := by
    have := c_Count ⟨[aw18G]⟩
    rw [show cntF 0 (Zbh.funcs ⟨[aw18G]⟩) = 1 from by
      simp only [cntF, cntB, List.foldl_cons, List.foldl_nil]
      show IntKind.i64.wrap (0 + ((1 : Nat) : Int)) = 1
      decide] at this; exact this
  have e1 : ([aw18G] : List Func).length = 1 := rfl
  have e2 : (([aw18G] : List Func).getD (Int.toNat 0) default).blocks.length = 1 := rfl
  have e3 : ((([aw18G] : List Func).getD (Int.toNat 0) default).blocks.getD (Int.toNat 0) default).ins.length = 1 := rfl
  (repeat' (refine Zab tok (by rfl) ?_; conv => whnf))
  refine .inl ⟨_, _, _, uG (QC.fc h1 rfl), ?_⟩
  conv => whnf
  ((repeat' first | refine Zad ?_ | (refine Zab tok (by rfl) ?_; conv => whnf) | (refine Zai ?_; conv => whnf) | (refine Zaj ?_; conv => whnf) | refine Zah rfl (fun hb => ?_) (fun hb => ?_) | (refine @And.intro (Zaa _ _ _ _) _ ?_ ?_; rotate_left; (conv => whnf); rotate_right)); all_goals (try ((guard_target = Zaa _ _ _ _); ((refine Za8 ?_; intro hgd; (conv at hgd => whnf); (try simp (disch := omega) only [wrap64] at hgd))); (all_goals (try simp only [Zaa, kzz, kz11, kz12, maxL, Zac] at *)); all_goals omega)))
  · exfalso; revert hb; decide
  clear hb
  refine .inl ⟨_, _, _, uG (QC.fc h2 rfl), ?_⟩
  conv => whnf
  skip
  refine .inl ⟨_, _, _, uG (QC.fc h3 rfl), ?_⟩
  conv => whnf
  (repeat' (refine Zaj ?_; conv => whnf))
  exact ⟨_, rfl, Rel.bool rfl⟩
end Go.Proofs.Ytbcocllokcimeaa
namespace Go.Proofs.Ytbcocllokcimeaa
open Go Dv
set_option maxRecDepth 10000
set_option linter.unusedSimpArgs false
theorem cutB_same (f : Func) (k q : Nat) : ((cutB f k).getD q default).pad = (f.blocks.getD q default).pad ∧ ((cutB f k).getD q default).fin = (f.blocks.getD q default).fin ∧ ((cutB f k).getD q default).landing = (f.blocks.getD q default).landing ∧ Cln ((cutB f k).getD q default).ins (f.blocks.getD q default).ins := by
  by_cases h : q < f.blocks.length
  · rw [cutB_at h]
    split
    · exact ⟨rfl, rfl, rfl, Cln.clean _ _⟩
    · exact ⟨rfl, rfl, rfl, Cln.refl _⟩
  · have e1 : (cutB f k).getD q default = default := by rw [List.getD_eq_getElem?_getD, List.getElem?_eq_none (by rw [Zcs]; omega)]; rfl
    have e2 : f.blocks.getD q default = default := by rw [List.getD_eq_getElem?_getD, List.getElem?_eq_none (by omega)]; rfl
    rw [e1, e2]; exact ⟨rfl, rfl, rfl, Cln.refl _⟩
theorem wIns_cln {a b : List Ins} (h : Cln a b) : ∀ ps, wIns ps a = wIns ps b := by
  induction h with
  | nil => intro ps; rfl
  | keep _ ih => intro ps; simp only [wIns]; simp only [ih]
  | drop hx _ ih =>
    intro ps
    simp only [wIns]
    rw [if_neg (fun e => by unfold mayB at hx; rw [decide_eq_true_eq] at hx; omega)]
    exact ih ps
theorem wBlk_cln : ∀ {l' l : List Zb0}, l'.length = l.length → (∀ i, i < l.length → Cln (l'.getD i default).ins (l.getD i default).ins ∧ (l'.getD i default).fin = (l.getD i default).fin) → ∀ ps, wBlk ps l' = wBlk ps l
  | [], [], _, _, _ => rfl
  | [], _ :: _, h, _, _ => by cases h
  | _ :: _, [], h, _, _ => by cases h
  | b' :: r', b :: r, hl, h, ps => by
      have h0 := h 0 (by simp)
      have hr := wBlk_cln (l' := r') (l := r) (by simpa using hl) (fun i hi => by have := h (i + 1) (by simpa using hi); simpa using this)
      simp only [List.getD_cons_zero] at h0
      simp only [wBlk]
      rw [wIns_cln h0.1, h0.2]
      simp only [hr]
theorem cln_mem {a b : List Ins} (h : Cln a b) : ∀ x ∈ a, x ∈ b := by
  induction h with
  | nil => intro x hx; exact hx
  | keep _ ih => intro x hx; rcases List.mem_cons.1 hx with e | e; exact e ▸ List.mem_cons_self; exact List.mem_cons_of_mem _ (ih x e)
  | drop _ _ ih => intro x hx; exact List.mem_cons_of_mem _ (ih x hx)
theorem cln_le {a b : List Ins} (h : Cln a b) : a.length ≤ b.length := by
  induction h with
  | nil => exact Nat.le_refl _
  | keep _ ih => exact Nat.succ_le_succ ih
  | drop _ _ ih => exact Nat.le_succ_of_le ih
theorem funcB_cut {m : Zbh} {f : Func} (k : Nat) (h : funcB m f = true) : funcB m { f with blocks := cutB f k } = true := by
  have hlen := Zcs f k
  have hsame := cutB_same f k
  have hg : goalB { f with blocks := cutB f k } = goalB f := by
    funext n; unfold goalB; simp only [hlen, (hsame _).2.2.1]
  have ha : argsB m { f with blocks := cutB f k } = argsB m f := rfl
  have hi : ∀ x, InsP m { f with blocks := cutB f k } x = InsP m f x := fun x => by unfold InsP; rw [ha]
  have he : ∀ x, EndP m { f with blocks := cutB f k } x = EndP m f x := fun x => by unfold EndP; rw [ha, hg]; simp only [hlen, (hsame _).2.2.1]
  unfold funcB at h ⊢
  rw [Bool.and_eq_true, decide_eq_true_eq] at h ⊢
  obtain ⟨h1, h2⟩ := h
  refine ⟨?_, ?_⟩
  · unfold FunP at h1 ⊢
    simp only [hlen, (hsame 0).2.2.1]
    exact h1
  · rw [List.all_eq_true] at h2 ⊢
    intro b hb
    obtain ⟨q, hq, rfl⟩ := List.getElem_of_mem hb
    have hq2 : q < f.blocks.length := by rw [← hlen]; exact hq
    have e : (cutB f k)[q] = (cutB f k).getD q default := by rw [Zbz default hq]
    have hq3 := h2 _ (Zcq default hq2)
    have hs := hsame q
    rw [show ({ f with blocks := cutB f k } : Func).blocks[q] = (cutB f k).getD q default from e]
    unfold blkB at hq3 ⊢
    rw [Bool.and_eq_true, decide_eq_true_eq] at hq3 ⊢
    obtain ⟨⟨g1, g2, g3⟩, g4⟩ := hq3
    have g5 := cln_le hs.2.2.2
    refine ⟨⟨by omega, ?_, ?_⟩, ?_⟩
    · unfold PadP at g2 ⊢
      rw [hs.1, hs.2.2.1]; exact g2
    · rw [he, hs.2.1]; exact g3
    · rw [List.all_eq_true] at g4 ⊢
      intro x hx
      have := g4 x (cln_mem hs.2.2.2 x hx)
      rw [decide_eq_true_eq] at this ⊢
      rw [hi]; exact this
theorem whole_cut {f : Func} (k : Nat) (h : Zb8 f = true) : Zb8 { f with blocks := cutB f k } = true := by
  unfold Zb8 at h ⊢
  have e : wBlk (List.replicate 16 (-1)) ({ f with blocks := cutB f k } : Func).blocks = wBlk (List.replicate 16 (-1)) f.blocks :=
    wBlk_cln (Zcs f k) (fun i _ => ⟨(cutB_same f k i).2.2.2, (cutB_same f k i).2.1⟩) _
  rw [e]
  split at h
  · cases h
  · rename_i ps hps
    exact funcB_cut k h
theorem upT_pt {g g' : Nat → Bool} {q : Nat} (h : g q = g' q) (p : Int) (v : Bool) : upT g p v q = upT g' p v q := by unfold upT; split <;> first | rfl | exact h
theorem upAll_pt : ∀ {l : List Int} {g g' : Nat → Bool} {q : Nat}, g q = g' q → Zch g l q = Zch g' l q
  | [], _, _, _, h => h
  | x :: r, _, _, _, h => upAll_pt (l := r) (upT_pt h x true)
theorem stepX_pt {g g' : Nat → Bool} {q : Nat} (x : Ins) (h : g q = g' q) : Zc0 x g q = Zc0 x g' q := by
  unfold Zc0
  refine upAll_pt ?_
  split
  · exact upT_pt h _ _
  · exact h
theorem upAll_keep : ∀ {l : List Int} {g : Nat → Bool} {q : Nat}, g q = true → Zch g l q = true
  | [], _, _, h => h
  | x :: r, _, _, h => upAll_keep (l := r) (show upT _ x true _ = true by unfold upT; split <;> first | rfl | exact h)
theorem clean_core {R : Nat} {G H : Nat → Bool} (hGH : ∀ q, q < R → H q = G q) : ∀ (l : List Ins), (∀ x ∈ l, mayB x = true → x.dst.toNat < R) →
    (∀ q, q < R → (cleanS l H).2 q = (cleanS l H).1.reverse.foldr Zc0 G q) ∧ gle ((cleanS l H).1.reverse.foldr Zc0 G) (l.foldr Zc0 G)
  | [], _ => ⟨fun q hq => hGH q hq, fun _ h => h⟩
  | x :: l, hR => by
      obtain ⟨ih1, ih2⟩ := clean_core hGH l (fun y hy => hR y (List.mem_cons_of_mem _ hy))
      have e : cleanS (x :: l) H = stepC x (cleanS l H) := rfl
      rw [e, List.foldr_cons]
      generalize hs : cleanS l H = s at ih1 ih2
      by_cases hi : idleX x s.2 = true
      · rw [show stepC x s = s from if_pos hi]
        refine ⟨ih1, fun q hq => ?_⟩
        have hm := idle_may hi
        have hset := may_sets hm
        have hq2 := ih2 q hq
        unfold Zc0
        rw [if_pos hset, show setsV x = x.dst from if_pos hset]
        by_cases e1 : q = x.dst.toNat
        · unfold idleX at hi
          rw [Bool.or_eq_true, Bool.and_eq_true, decide_eq_true_eq] at hi
          rcases hi with ⟨o1, o2⟩ | ⟨_, o2⟩
          · rw [show Zba x = [x.a] from if_pos (.inl o1)]
            show upT _ x.a true q = true
            unfold upT
            rw [if_pos (by rw [e1, o2])]
          · exfalso
            have := ih1 q (by rw [e1]; exact hR x List.mem_cons_self hm)
            rw [hq, e1] at this
            rw [this] at o2; cases o2
        · refine upAll_keep ?_
          unfold upT
          rw [if_neg e1]; exact hq2
      · rw [show stepC x s = (s.1 ++ [x], Zc0 x s.2) from if_neg hi]
        simp only [List.reverse_append, List.reverse_cons, List.reverse_nil, List.nil_append, List.singleton_append, List.foldr_cons]
        exact ⟨fun q hq => stepX_pt x (ih1 q hq), gle_step ih2⟩
theorem newAt_cut {f : Func} (hw : Zb8 f = true) {n : Nat} (hn : n < f.blocks.length) : leL (Zda (Zbm f) f.regs.toNat (Zbu f) n) ((Zbm f).getD n []) := by
  have hF := found_fix hw
  obtain ⟨hr0, hr2, _⟩ := whole_fun hw
  obtain ⟨ps, hfun⟩ := whole_ok hw
  have hok := okL hfun hn
  rw [← hF.at_ n hn]
  intro q e
  have hq : q < f.regs.toNat := by
    refine Classical.byContradiction fun hc => ?_
    rw [getD_ge (by rw [newAt_len]; omega)] at e; cases e
  unfold Zda at e ⊢
  rw [Zex hq] at e ⊢
  have hblk : (Zbu f).blocks.getD n default = blkC f n := by
    show (cutB f (Zbi f).length).getD n default = _
    rw [cutB_at hn, if_pos (by rw [hF.l2]; exact hn)]
  rw [hblk] at e
  have hgp : gPad (Zbm f) f.regs.toNat (Zbu f) (blkC f n) = gPad (Zbm f) f.regs.toNat f (f.blocks.getD n default) := by
    unfold gPad
    have : ((Zbu f).blocks.getD (blkC f n).fin.pad.toNat default).pad = (f.blocks.getD (blkC f n).fin.pad.toNat default).pad := (cutB_same f _ _).1
    rw [this]; rfl
  have hge : gEnd (Zbm f) f.regs.toNat (Zbu f) (blkC f n) = gEnd (Zbm f) f.regs.toNat f (f.blocks.getD n default) := by
    unfold gEnd; rw [hgp]; rfl
  have hGH : ∀ q, q < f.regs.toNat → gEnds f n q = gEnd (Zbm f) f.regs.toNat f (f.blocks.getD n default) q := fun q hq => by
    unfold gEnds gEnd
    refine upAll_pt ?_
    unfold atB
    rw [hF.be n hn]
    unfold newBe
    rw [Zex hq]
  have hcore := clean_core hGH (f.blocks.getD n default).ins (fun x hx hm => by have := hok.sets x hx (may_sets hm); omega)
  unfold gIns at e ⊢
  rw [hge] at e
  exact hcore.2 q e
theorem itS_cut {f : Func} (hw : Zb8 f = true) : ∀ j, leA (itS (Zbu f) j).1 (Zbm f) := by
  have hsw : ∀ (s : SW), leA s.1 (Zbm f) → ∀ m, m ≤ f.blocks.length → leA (swD (Zbu f) s m).1 (Zbm f) := by
    intro s hs m
    induction m with
    | zero => intro _; exact hs
    | succ m ih =>
      intro hm k
      have h1 := ih (by omega)
      show leL ((((swD (Zbu f) s m).1).set ((Zbu f).blocks.length - 1 - m) (Zda (swD (Zbu f) s m).1 f.regs.toNat (Zbu f) ((Zbu f).blocks.length - 1 - m))).getD k []) _
      rw [Zbn]
      split
      · rename_i hk
        rw [← hk.1]
        have hn : (Zbu f).blocks.length - 1 - m < f.blocks.length := by rw [idleF_len]; omega
        exact leL.trans (le_new h1 _ _ _) (newAt_cut hw hn)
      · exact h1 k
  intro j
  induction j with
  | zero =>
    intro k q e
    exfalso
    have : ((Zcu (Zbu f)).getD k []).getD q false = true := e
    by_cases hk : k < (Zbu f).blocks.length
    · rw [Zdj _ hk, List.getD_eq_getElem?_getD, List.getElem?_replicate] at this
      split at this <;> cases this
    · rw [List.getD_eq_getElem?_getD (l := Zcu (Zbu f)), List.getElem?_eq_none (by simp only [Zcu, List.length_replicate]; omega)] at this
      cases this
  | succ j ih =>
    show leA (swD (Zbu f) ((itS (Zbu f) j).1, (itS (Zbu f) j).2.1, false) (Zbu f).blocks.length).1 _
    exact hsw ((itS (Zbu f) j).1, (itS (Zbu f) j).2.1, false) ih _ (Nat.le_of_eq (idleF_len f))
theorem idle_live (f : Func) : (Zbm (Zbu f)).length = (Zbm f).length ∧ leA (Zbm (Zbu f)) (Zbm f) ∧ ∀ k, k < (Zbm f).length → ((Zbm (Zbu f)).getD k []).length = ((Zbm f).getD k []).length := by
  cases hw : Zb8 f with
  | false =>
    have e : Zbu f = f := by
      unfold Zbu
      rw [(found_no hw).2]
      show ({ f with blocks := cutB f 0 } : Func) = f
      rw [cutB_zero]
    rw [e]
    exact ⟨rfl, fun k => leL.refl _, fun _ _ => rfl⟩
  | true =>
    have hF := found_fix hw
    have hw2 : Zb8 (Zbu f) = true := whole_cut _ hw
    have hF2 := found_fix hw2
    refine ⟨by rw [hF2.l1, hF.l1, idleF_len], ?_, fun k hk => ?_⟩
    · have : Zbm (Zbu f) = (itS (Zbu f) (Zcp (Zbu f))).1 := by unfold Zbm; rw [if_pos hw2]
      rw [this]; exact itS_cut hw _
    · rw [hF.l1] at hk
      rw [hF2.e1 k (by rw [idleF_len]; exact hk), hF.e1 k hk]; rfl
end Go.Proofs.Ytbcocllokcimeaa
namespace Go.Proofs.Ytbcocllokcimeaa
open Go Dv
set_option maxRecDepth 10000
set_option linter.unusedSimpArgs false
abbrev boolss (A : List (List Bool)) : AV := .sl 1 A.length (fun q => [bools (A.getD q [])])
theorem c_At (f : Func) : FC Try.prog 6 [.agg (Zau f)] (boolss (Zbm f)) := by
  refine Za1 tok Try.func6 rfl (by decide +kernel) (Nat.le_of_ble_eq_true rfl) ?_
  (repeat' first | refine Zad ?_ | (refine Zab tok (by rfl) ?_; conv => whnf))
  refine .inr ⟨_, _, _, uG (QH.of (dead := []) [] (c_found f) rfl .nil (.cons (.eq rfl) .nil) [(k0, k0), (k1, k1), (k2, k2)] rfl (.cons rfl (BLe.rowO rfl) (.cons rfl (BLe.refl _) (.cons rfl (BLe.refl _) .nil))) rfl), ?_⟩
  conv => whnf
  (repeat' (refine Zaj ?_; conv => whnf))
  exact ⟨_, rfl, Rel.row rfl rfl rfl (fun _ _ => rfl)⟩
end Go.Proofs.Ytbcocllokcimeaa
namespace Go.Proofs.Ytbcocllokcimeaa
open Go Dv
set_option maxRecDepth 10000
set_option linter.unusedSimpArgs false
def smallF (f : Func) : Bool := shortB ⟨[f]⟩ && (decide ((f.blocks.length : Int) ≤ 12) && (decide (f.regs ≤ 12) || decide (256 < f.regs)))
theorem c_small18 (f : Func) : FC Try.prog 5 [.agg (Zau f)] (.bool (smallF f)) := by
  refine Za1 tok Try.func5 rfl (by decide +kernel) (Nat.le_of_ble_eq_true rfl) ?_
  refine Zar 0 (fun hl => ?_)
  have hl0 : f.blocks.length ≤ maxL := hl.2.2.1.1
  have hmx : maxL = 4294967296 := rfl
  clear hl
  (repeat' first | refine Zad ?_ | (refine Zab tok (by rfl) ?_; conv => whnf))
  refine .inl ⟨_, _, _, uG (QC.sc (rd := [Zcn (some 4)]) (c_Short ⟨[f]⟩) (.cons (.agg (.cons (.rsN rfl (by simp) (Nat.le_refl _) rfl (ltS (Ress.imms rfl) lt0)) .nil)) .nil) rfl), ?_⟩
  conv => whnf
  (repeat' (refine Zaj ?_; conv => whnf))
  refine ⟨_, rfl, Rel.bool ?_⟩
  unfold smallF
  cases shortB ⟨[f]⟩ <;> by_cases h1 : (f.blocks.length : Int) ≤ 12 <;> by_cases h2 : f.regs ≤ 12 <;> by_cases h3 : 256 < f.regs <;> simp [h1, h2, h3]
set_option maxHeartbeats 2000000 in
theorem c_IdleLive (f : Func) : FC Try.prog 3 [.agg (Zau f)] (.bool true) := by
  refine Za1 tok Try.func3 rfl (by decide +kernel) (Nat.le_of_ble_eq_true rfl) ?_
  have hmx : maxL = 4294967296 := rfl
  (repeat' first | refine Zad ?_ | (refine Zab tok (by rfl) ?_; conv => whnf))
  refine .inl ⟨_, _, _, uG (QC.fc c_awake18 rfl), ?_⟩
  conv => whnf
  (repeat' first | refine Zad ?_ | (refine Zab tok (by rfl) ?_; conv => whnf) | (refine Zai ?_; conv => whnf) | (refine Zaj ?_; conv => whnf) | refine Zah rfl (fun hb => ?_) (fun hb => ?_))
  · cases hb
  clear hb
  refine .inl ⟨_, _, _, uG (QC.fc (c_small18 f) rfl), ?_⟩
  conv => whnf
  (repeat' first | refine Zad ?_ | (refine Zab tok (by rfl) ?_; conv => whnf) | (refine Za2 tok mix (by rfl) ?_; conv => whnf) | (refine Zai ?_; conv => whnf) | (refine Zaj ?_; conv => whnf) | refine Zah rfl (fun hb => ?_) (fun hb => ?_))
  · exact ⟨_, rfl, Rel.bool rfl⟩
  clear hb
  refine .inl ⟨_, _, _, uG (QC.fc (c_At f) rfl), ?_⟩
  conv => whnf
  skip
  refine .inl ⟨_, _, _, uG (QC.fc (c_idleF f) rfl), ?_⟩
  conv => whnf
  skip
  refine .inl ⟨_, _, _, uG (QC.fc (c_At (Zbu f)) rfl), ?_⟩
  conv => whnf
  (repeat' ((fail_if_success (show AWp _ _ _ (Code.region 6 _ _) _ _)); refine Zad ?_))
  obtain ⟨hlen, hle, hrow⟩ := idle_live f
  have hgen : ∃ A, Zbm f = A := ⟨_, rfl⟩
  obtain ⟨A, hA⟩ := hgen
  have hgen : ∃ A2, Zbm (Zbu f) = A2 := ⟨_, rfl⟩
  obtain ⟨A2, hA2⟩ := hgen
  rw [hA, hA2] at hlen hle hrow
  rw [hA, hA2]
  refine Zar 3 (fun hl => ?_)
  have hl0 : A.length ≤ maxL := hl.1
  have hl1 : ∀ i, i < A.length → (A.getD i []).length ≤ maxL := fun i hi => (hl.2 i hi).1.1
  clear hl
  (repeat' ((fail_if_success (show AWp _ _ _ (Code.region 8 _ _) _ _)); first | refine Zad ?_ | (refine Zab tok (by rfl) ?_; conv => whnf) | (refine Zai ?_; conv => whnf) | (refine Zaj ?_; conv => whnf) | refine Zah rfl (fun hb => ?_) (fun hb => ?_)))
  · exfalso
    rw [hlen] at hb
    simp at hb
  clear hb
  (repeat' ((fail_if_success (show AWp _ _ _ (Code.region 9 _ _) _ _)); first | (refine Zab tok (by rfl) ?_; conv => whnf) | refine Zaf ?_))
  refine Zap (fun n : Nat => mkS [(3, boolss A), (4, boolss A2), (5, iv n)] []) (fun n => n ≤ A.length) (fun n => A.length - n) 0 (Nat.zero_le _) ?_ ?_
  · refine Weak.list [] rfl (by rfl) ?_ .nil
    ((repeat' first | exact TLes.nil | refine TLes.cons (TLe.eq rfl) ?_); skip)
  intro n hn
  (repeat' ((fail_if_success (show AWp _ _ _ (Code.region 11 _ _) _ _)); first | refine Zad ?_ | (refine Zab tok (by rfl) ?_; conv => whnf) | refine Zaf ?_ | (refine Zai ?_; conv => whnf) | (refine Zan ?_; conv => whnf) | (refine Zaj ?_; conv => whnf) | refine Zah rfl (fun hb => ?_) (fun hb => ?_)))
  · have hlt : n < A.length := by simp only [decide_eq_true_eq] at hb; omega
    clear hb
    have hz : (n : Int).toNat = n := by simp
    have hrn := hrow n hlt
    have hln := hl1 n hlt
    have hle := hle n
    have hgen : ∃ a, A.getD n [] = a := ⟨_, rfl⟩
    obtain ⟨a, ha⟩ := hgen
    have hgen : ∃ a2, A2.getD n [] = a2 := ⟨_, rfl⟩
    obtain ⟨a2, ha2⟩ := hgen
    rw [ha] at hrn hln hle
    rw [ha2] at hrn hle
    have ha' : A.getD (n : Int).toNat [] = a := by rw [hz, ha]
    have ha2' : A2.getD (n : Int).toNat [] = a2 := by rw [hz, ha2]
    (repeat' ((fail_if_success (show AWp _ _ _ (Code.region 12 _ _) _ _)); first | (refine Zab tok (by rfl) ?_; conv => whnf) | refine Zaf ?_))
    refine Zap (fun p : Nat => mkS [(3, boolss A), (4, boolss A2), (5, iv n), (6, iv p)] []) (fun p => p ≤ a.length) (fun p => a.length - p) 0 (Nat.zero_le _) ?_ ?_
    · refine Weak.list [] rfl (by rfl) ?_ .nil
      ((repeat' first | exact TLes.nil | refine TLes.cons (TLe.eq rfl) ?_); skip)
    intro p hp
    ((repeat' ((fail_if_success (show AWp _ _ _ (Code.region 14 _ _) _ _)); first | refine Zad ?_ | (refine Zab tok (by rfl) ?_; conv => whnf) | refine Zaf ?_ | (refine Zai ?_; conv => whnf) | (refine Zan ?_; conv => whnf) | refine Zah rfl (fun hb => ?_) (fun hb => ?_) | (refine @And.intro (Zaa _ _ _ _) _ ?_ ?_; rotate_left; (conv => whnf); rotate_right))); all_goals (try ((guard_target = Zaa _ _ _ _); refine Zae ?_; (all_goals (try simp only [Zaa, kzz, kz11, kz12, maxL, Zac] at *)); all_goals omega)))
    · have hpl : p < a.length := by rw [ha'] at hb; simp only [decide_eq_true_eq] at hb; omega
      clear hb
      have hzp : (p : Int).toNat = p := by simp
      have hp1 : p < (A.getD (n : Int).toNat []).length := by rw [ha']; exact hpl
      have hp2 : p < (A2.getD (n : Int).toNat []).length := by rw [ha2', hrn]; exact hpl
      ((repeat' first | refine Zad ?_ | (refine Zab tok (by rfl) ?_; conv => whnf) | (refine Zai ?_; conv => whnf) | (refine Zaj ?_; conv => whnf) | refine Zah rfl (fun hb => ?_) (fun hb => ?_) | (refine @And.intro (Zaa _ _ _ _) _ ?_ ?_; rotate_left; (conv => whnf); rotate_right)); all_goals (try ((guard_target = Zaa _ _ _ _); (first | refine Zae ?_ | (refine Za8 ?_; intro hgd; (conv at hgd => whnf))); (all_goals (try simp only [Zaa, kzz, kz11, kz12, maxL, Zac] at *)); all_goals omega)))
      · exfalso
        rw [ha', ha2'] at hb
        have := hle p
        rw [hzp] at hb
        cases e1 : a2.getD p false with
        | false => rw [e1] at hb; cases hb
        | true => rw [e1, this e1] at hb; cases hb
      · refine ⟨p + 1, hpl, by omega, ?_⟩
        refine Weak.list [] rfl (by rfl) ?_ .nil
        ((repeat' first | exact TLes.nil | refine TLes.cons (TLe.eq rfl) ?_ | refine TLes.cons (TLe.int ?_) ?_); (all_goals first | ((try (simp only [Zaa, kzz, kz11, kz12, maxL, Zac] at *)); exact wrap64 (by omega) (by omega)) | skip))
    · have hpl : p = a.length := by rw [ha'] at hb; simp only [decide_eq_false_iff_not] at hb; omega
      clear hb
      subst hpl
      skip
      refine ⟨n + 1, hlt, by omega, ?_⟩
      refine Weak.list [] rfl (by rfl) ?_ .nil
      ((repeat' first | exact TLes.nil | refine TLes.cons (TLe.eq rfl) ?_ | refine TLes.cons (TLe.int ?_) ?_); (all_goals first | ((try (simp only [Zaa, kzz, kz11, kz12, maxL, Zac] at *)); exact wrap64 (by omega) (by omega)) | skip))
  · skip
    exact ⟨_, rfl, Rel.bool rfl⟩
end Go.Proofs.Ytbcocllokcimeaa
namespace Go.Proofs.Ytbcocllokcimeaa
open Go Dv Go.ChangeShapes Go.WideShapes Go.ChangeAt Go.RowKit
open Go.Proofs.Ytbcocllokcimeaa
set_option maxRecDepth 10000
set_option linter.unusedVariables false
section
variable {H : Type} {enc : TypeId × Value → H} {w : World}
abbrev Sm (H : Type) : DataW H → Prop := fun d => Rows.uptoBulk d ≤ 1048576
theorem bulk_all {ds : List (DataW H)} {n : Nat} (h : Rows.uptoBulkAll ds ≤ n) : ∀ d ∈ ds, Rows.uptoBulk d ≤ n := by
  induction ds with
  | nil => intro d hd; cases hd
  | cons x r ih =>
    simp only [Rows.uptoBulkAll] at h
    intro d hd
    simp only [List.mem_cons] at hd
    rcases hd with rfl | hd
    · omega
    · exact ih (by omega) d hd
theorem bulk_pos (d : DataW H) : 1 ≤ Rows.uptoBulk d := by
  cases d with
  | lit l => cases l <;> simp only [Rows.uptoBulk] <;> omega
  | _ => simp only [Rows.uptoBulk]; omega
theorem bulk_len {ds : List (DataW H)} {n : Nat} (h : Rows.uptoBulkAll ds ≤ n) : ds.length ≤ n := by
  induction ds generalizing n with
  | nil => simp
  | cons x r ih =>
    simp only [Rows.uptoBulkAll] at h
    have := bulk_pos x
    have := ih (n := n - Rows.uptoBulk x) (by omega)
    simp only [List.length_cons]; omega
theorem sm_agg (ds : List (DataW H)) (h : Sm H (.agg ds)) : ∀ d ∈ ds, Sm H d := by
  simp only [Sm, Rows.uptoBulk] at h; exact bulk_all (by omega)
theorem sm_slice (es sp : List (DataW H)) (h : Sm H (.slice es sp)) : es.length ≤ maxL ∧ ∀ x ∈ es, Sm H x := by
  simp only [Sm, Rows.uptoBulk] at h
  have h1 : Rows.uptoBulkAll es ≤ 1048576 := by omega
  exact ⟨Nat.le_trans (bulk_len h1) (by decide), bulk_all h1⟩
theorem Zdn : Rd enc Try.prog w (Sm H) 3 Int (fun n => [iv n]) := Rd.int Try.underlying3
theorem rd_u16 : Rd enc Try.prog w (Sm H) 31 Int (fun n => [.int .u16 n]) := Rd.int Try.underlying31
theorem rd_bool : Rd enc Try.prog w (Sm H) 4 Bool (fun b => [.bool b]) := Rd.bool Try.underlying4
theorem rd_ints : Rd enc Try.prog w (Sm H) 32 (List Int) (fun l => [ints l]) := Rd.slice Try.underlying32 (by decide +kernel) (Nat.le_refl _) (fun _ => ⟨rfl, rfl⟩) Zdn sm_slice
theorem rd_u16s : Rd enc Try.prog w (Sm H) 38 (List Int) (fun l => [u16s l]) := Rd.slice Try.underlying38 (by decide +kernel) (Nat.le_refl _) (fun _ => ⟨rfl, rfl⟩) rd_u16 sm_slice
theorem rd_Ins : Rd enc Try.prog w (Sm H) 34 Ins Zaz :=
  Rd.map (fun x => ⟨x.1, x.2.1, x.2.2.1, x.2.2.2.1, x.2.2.2.2.1, x.2.2.2.2.2.1, x.2.2.2.2.2.2.1⟩)
    (Rd.struct (fl := [(3, 1), (3, 1), (3, 1), (3, 1), (31, 1), (3, 1), (32, 1)]) Try.underlying34 (.cons Zdn (.cons Zdn (.cons Zdn (.cons Zdn (.cons rd_u16 (.cons Zdn (.cons rd_ints .nil)))))))
      rfl (by decide +kernel) (by decide +kernel) sm_agg) (fun _ => rfl)
theorem rd_inss : Rd enc Try.prog w (Sm H) 35 (List Ins) (fun l => [inss l]) := Rd.slice Try.underlying35 (by decide +kernel) (by decide) (fun _ => ⟨rfl, rfl⟩) rd_Ins sm_slice
theorem rd_End : Rd enc Try.prog w (Sm H) 37 End Zc7 :=
  Rd.map (fun x => ⟨x.1, x.2.1, x.2.2.1, x.2.2.2.1, x.2.2.2.2.1, x.2.2.2.2.2.1, x.2.2.2.2.2.2.1, x.2.2.2.2.2.2.2.1⟩)
    (Rd.struct (fl := [(3, 1), (3, 1), (3, 1), (3, 1), (32, 1), (3, 1), (3, 1), (3, 1)]) Try.underlying37 (.cons Zdn (.cons Zdn (.cons Zdn (.cons Zdn (.cons rd_ints (.cons Zdn (.cons Zdn (.cons Zdn .nil))))))))
      rfl (by decide +kernel) (by decide +kernel) sm_agg) (fun _ => rfl)
theorem rd_Pad : Rd enc Try.prog w (Sm H) 40 Pad encPad :=
  Rd.map (fun x => ⟨x.1, x.2.1, x.2.2.1, x.2.2.2.1⟩)
    (Rd.struct (fl := [(3, 1), (38, 1), (4, 1), (4, 1)]) Try.underlying40 (.cons Zdn (.cons rd_u16s (.cons rd_bool (.cons rd_bool .nil))))
      rfl (by decide +kernel) (by decide +kernel) sm_agg) (fun _ => rfl)
theorem rd_Block : Rd enc Try.prog w (Sm H) 42 Zb0 Zax :=
  Rd.map (fun x => ⟨x.1, x.2.1, x.2.2.1, x.2.2.2.1⟩)
    (Rd.struct (fl := [(4, 1), (40, 4), (35, 1), (37, 8)]) Try.underlying42 (.cons rd_bool (.cons rd_Pad (.cons rd_inss (.cons rd_End .nil))))
      rfl (by decide +kernel) (by decide +kernel) sm_agg) (fun _ => rfl)
theorem rd_blocks : Rd enc Try.prog w (Sm H) 22 (List Zb0) (fun l => [Zce l]) := Rd.slice Try.underlying22 (by decide +kernel) (by decide) (fun _ => ⟨rfl, rfl⟩) rd_Block sm_slice
theorem rd_Func : Rd enc Try.prog w (Sm H) 24 Func Zau :=
  Rd.map (fun x => ⟨x.1, x.2.1, x.2.2.1⟩)
    (Rd.struct (fl := [(3, 1), (3, 1), (22, 1)]) Try.underlying24 (.cons Zdn (.cons Zdn (.cons rd_blocks .nil)))
      rfl (by decide +kernel) (by decide +kernel) sm_agg) (fun _ => rfl)
end
theorem small_of {H : Type} {ds gs : List (DataW H)} (hk : Rows.uptoSmall H (ds ++ gs) = true) : ∀ d ∈ ds, Sm H d := by
  have h := of_decide_eq_true hk
  exact fun d hd => bulk_all h d (List.mem_append_left _ hd)
end Go.Proofs.Ytbcocllokcimeaa
namespace Go.Proofs.Ytbcocllokcimeaa
open Go Dv Go.ChangeShapes Go.WideShapes Go.ChangeAt Go.RowKit
open Go.Proofs.Ytbcocllokcimeaa
set_option maxRecDepth 100000
set_option linter.unusedVariables false
namespace idleLive
theorem own : ownKnob Try.prog.godebug = none := by kernel_rfl
theorem contract (H : Type) (enc : TypeId × Value → H) (W : World) (base : Nat) (args : Array Value) (ds gs : List (DataW H)) (before : List MemPlace) (hk : Rows.uptoSmall H (ds ++ gs) = true)
    (hval : ∀ (j : Nat) t v, Try.f3.params[j]? = some t → args[j]? = some v → Value.okWide Try.prog W .any base t v)
    (hW : DataW.Whole enc Try.prog Try.f3.params.toList Rows.idleLiveSpec.vars false W args.toList ds gs before) :
    Calls Try.prog 3 args W fun e W' => ∃ v, e = .returned v ∧ Rows.idleLiveSpec.post enc Try.prog Try.f3 false true false false W args v W' := by
  have hsm := small_of hk
  have hW' := hW
  obtain ⟨p, q, hA0, hV, rfl, hfz, hnd⟩ := hW
  have hA : DataW.TrodAll enc Try.prog W 0 (fun _ => true) true Try.f3.params.toList args.toList ds p := hA0
  rw [Try.params3] at hA hval
  obtain ⟨v0, vs0, d0, ds0, p0, q0, hargs, rfl, rfl, h0, r0⟩ := trodAll_cons hA
  obtain ⟨rfl, rfl, rfl⟩ := trodAll_nil r0
  obtain rfl : args = #[v0] := by cases args; simp_all
  obtain ⟨x0, hx0⟩ := arg_struct Try.underlying24 (hval 0 _ v0 rfl rfl) h0 rd_Func (hsm d0 (by simp))
  obtain ⟨rfl, rfl⟩ := trodVars_none hV
  refine law_contract (tb := 4) (by decide +kernel) (by rw [Try.params3]; decide +kernel) rfl (by kernel_rfl) Try.underlying4 hW' ⟨rfl, rfl, rfl⟩ (FC.calls (c_IdleLive x0) ?_)
  simp only [Vs]
  exact ⟨_, _, rfl, hx0, rfl⟩
theorem lifted (os : Os) (started : os.Started) (H : Type) (enc : TypeId × Value → H) (F : Stop.Interp) :
    ReturnsInHanded {} Try.checked os 3 .any ((Rows.OpenSpec.upto Rows.idleLiveSpec).pre6 enc Try.prog Try.f3 Rows.idleLiveUptoRow.domain false) (((Rows.OpenSpec.upto Rows.idleLiveSpec).at F).post enc Try.prog Try.f3 false true false false) := by
  refine returnsInHanded_of_cond (C := Try.checked) (s := Rows.OpenSpec.upto Rows.idleLiveSpec) (k := Rows.uptoSmall) rfl own started (by kernel_rfl) Try.func3
    (OpenSpec.witness (enc := enc) (C := Try.checked) (s := Rows.OpenSpec.upto Rows.idleLiveSpec) (k := Rows.uptoSmall) rfl false ⟨#[], #[.agg #[.int .i64 0, .int .i64 0, .slice none 0 0]], []⟩ 64 (by kernel_rfl) (by kernel_rfl) (by kernel_rfl)
      (x := ([.agg [.lit (.int .i64 0), .lit (.int .i64 0), .nil]], [], [])) (by kernel_rfl) rfl (by kernel_rfl)) ?_
  intro W base args ds gs before hval hW _ hk _
  exact contract H enc W base args ds gs before hk hval hW
theorem over : Rows.idleLiveUptoRow.holds Try.pinned (Rows.OpenSpec.upto Rows.idleLiveSpec) :=
  OpenClaim.holds_of_cond 3 Try.f3 rfl rfl rfl rfl rfl rfl rfl ⟨rfl, rfl, rfl, rfl, rfl⟩ rfl rfl rfl rfl rfl (by kernel_rfl) Try.func3 (by kernel_rfl)
    (of_decide_eq_true (by kernel_rfl)) (by unfold Func.isWrapper; first | (rw [if_pos (by decide +kernel)]; kernel_rfl) | (rw [if_neg (by decide +kernel)]; exact ⟨rfl, rfl⟩))
    (fun os started H enc _ F => lifted os started H enc F)
end idleLive
theorem idleLive_holds : Rows.IdleLiveUptoSaid := idleLive.over
end Go.Proofs.Ytbcocllokcimeaa
