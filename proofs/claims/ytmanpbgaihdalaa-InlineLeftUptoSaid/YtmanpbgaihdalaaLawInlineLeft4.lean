/- no call of a small function is left, but of one in itself, in a block that would be too long, or in a function that would have too many places; all ends stay -/
import Derived.Test.YtmanpbgaihdalaaDvc3
import Derived.Test.YtmanpbgaihdalaaLawInlineLeft3
set_option linter.unusedVariables false
set_option linter.unusedSimpArgs false
set_option linter.unnecessarySimpa false
namespace Go.Proofs.Ytmanpbgaihdalaa
open Go Dv
set_option maxRecDepth 10000
set_option linter.unusedSimpArgs false
theorem funN_shape {m : Module} {n : Nat} (hr : rightB m = true) (hn : n < m.funcs.length) : (funN m n).blocks.length = (m.funcs.getD n default).blocks.length ∧ (funN m n).params = (m.funcs.getD n default).params ∧
    (m.funcs.getD n default).regs ≤ (funN m n).regs ∧ (funN m n).regs ≤ (m.funcs.getD n default).regs + 16 := by
  have := mostL_le m n (m.funcs.getD n default).blocks
  unfold funN
  split
  · exact ⟨rfl, rfl, Int.le_refl _, by omega⟩
  · refine ⟨by simp [bigF], rfl, ?_, ?_⟩ <;> simp only [bigF] <;> omega
theorem any_take_succ {p : Ins → Bool} {l : List Ins} {j : Nat} (h : j < l.length) : (l.take (j + 1)).any p = ((l.take j).any p || p (l.getD j default)) := by
  rw [take_succ_getD default h, List.any_append]; simp
theorem outX_none {m : Module} {n : Nat} : ∀ {l : List Ins}, l.any (inlX m n) = false → outX m n l = l
  | [], _ => rfl
  | x :: r, h => by
      simp only [List.any_cons, Bool.or_eq_false_iff] at h
      show blkX m n x ++ outX m n r = _
      rw [outX_none h.2]
      unfold blkX; rw [h.1]; rfl
theorem funN_blk {m : Module} {n k : Nat} (hr : rightB m = true) (hn : n < m.funcs.length) (hk : k < (m.funcs.getD n default).blocks.length) :
    ((funN m n).blocks.getD k default).fin = ((m.funcs.getD n default).blocks.getD k default).fin ∧ ((funN m n).blocks.getD k default).ins.length ≤ 64 ∧
    (((m.funcs.getD n default).blocks.getD k default).ins.any (inlX m n) = false → ((funN m n).blocks.getD k default).ins.length = (outX m n ((m.funcs.getD n default).blocks.getD k default).ins).length) ∧
    ((outX m n ((m.funcs.getD n default).blocks.getD k default).ins).length ≤ 64 → (m.funcs.getD n default).regs + 16 ≤ 256 → ((funN m n).blocks.getD k default).ins.length = (outX m n ((m.funcs.getD n default).blocks.getD k default).ins).length) := by
  have h64 := right_ins hr hn hk
  have hm := mostL_le m n (m.funcs.getD n default).blocks
  have hb : (bigF m n).blocks.getD k default = blkI m n ((m.funcs.getD n default).blocks.getD k default) := by
    simp only [bigF]; generalize (m.funcs.getD n default).blocks = l at hk ⊢
    rw [List.getD_eq_getElem?_getD, List.getElem?_map, List.getD_eq_getElem?_getD, List.getElem?_eq_getElem hk]; rfl
  generalize hl : (m.funcs.getD n default).blocks.getD k default = b at *
  unfold funN
  split
  · rename_i h
    have : (bigF m n).regs = (m.funcs.getD n default).regs + mostL m n (m.funcs.getD n default).blocks := rfl
    rw [hl]
    refine ⟨rfl, h64, fun e => by rw [outX_none e], fun _ h2 => by omega⟩
  · rw [hb]
    unfold blkI blockI
    by_cases h : 64 < (outX m n b.ins).length
    · rw [if_pos h]; exact ⟨rfl, h64, fun e => by rw [outX_none e], fun h2 => by omega⟩
    · rw [if_neg h]; exact ⟨rfl, by simp only; omega, fun _ => rfl, fun _ _ => rfl⟩
set_option maxHeartbeats 4000000 in
theorem c_InlineLeft (m : Module) : FC Try.prog 9 [.agg (encMod m)] (.bool true) := by
  refine FC_intro tok Try.func9 rfl (by decide +kernel) (Nat.le_of_ble_eq_true rfl) ?_
  refine AWp_facts 0 (fun hl => ?_)
  have hl0 : m.funcs.length ≤ maxL := hl.1.1
  have hmx : maxL = 4294967296 := rfl
  clear hl
  (repeat' first | refine AWp_seq ?_ | (refine AWp_reg tok (by rfl) ?_; conv => whnf))
  refine .inl ⟨_, _, _, uG (QC.fc c_awake23 rfl), ?_⟩
  conv => whnf
  (repeat' first | refine AWp_seq ?_ | (refine AWp_reg tok (by rfl) ?_; conv => whnf) | (refine AWp_skip ?_; conv => whnf) | (refine AWp_ret ?_; conv => whnf) | refine AWp_cond rfl (fun hb => ?_) (fun hb => ?_))
  · cases hb
  clear hb
  refine .inl ⟨_, _, _, uG (QC.fc (c_Short m) rfl), ?_⟩
  conv => whnf
  (repeat' first | refine AWp_seq ?_ | (refine AWp_reg tok (by rfl) ?_; conv => whnf) | (refine AWp_skip ?_; conv => whnf) | (refine AWp_ret ?_; conv => whnf) | refine AWp_cond rfl (fun hb => ?_) (fun hb => ?_))
  · exact ⟨_, rfl, Rel.bool rfl⟩
  have hsh : shortB m = true := by simpa using hb
  clear hb
  refine .inl ⟨_, _, _, uG (QC.fc (c_iModule m) rfl), ?_⟩
  conv => whnf
  (repeat' first | refine AWp_seq ?_ | (refine AWp_reg tok (by rfl) ?_; conv => whnf) | refine AWp_block ?_ | (refine AWp_skip ?_; conv => whnf) | refine AWp_cond rfl (fun hb => ?_) (fun hb => ?_))
  · have hr : rightB m = false := by
      cases h : rightB m with
      | false => rfl
      | true => simp [errM, h] at hb
    refine .inl ⟨_, _, _, uG (QC.fc (c_rSame (moduleI m) m) rfl), ?_⟩
    conv => whnf
    (repeat' (refine AWp_ret ?_; conv => whnf))
    refine ⟨_, rfl, Rel.bool ?_⟩
    simp [moduleI, hr]
  have hr : rightB m = true := by
    cases h : rightB m with
    | true => rfl
    | false => simp [errM, h] at hb
  clear hb
  have hML : (moduleI m).funcs.length = m.funcs.length := by unfold moduleI; rw [if_pos hr]; simp
  have hMA : ∀ i, i < m.funcs.length → (moduleI m).funcs.getD i default = funN m i := fun i hi => by unfold moduleI; rw [if_pos hr]; exact range_getD _ _ hi
  refine AWp_loop (fun i : Nat => mkS [(1, .bp (1, 0, 0) 0), (3, .bp (3, 0, 0) 0), (5, iv i)] [((1, 0, 0), boxed (encMod m)), ((3, 0, 0), .row true 1 1 (fun _ => encMod (moduleI m)))]) (fun i => i ≤ m.funcs.length) (fun i => m.funcs.length - i) 0 (Nat.zero_le _) ?_ ?_
  · refine Weak.list [((1, 0, 0), .old (1, 0, 0), boxed (encMod m)), ((3, 0, 0), .old (3, 0, 0), .row true 1 1 (fun _ => encMod (moduleI m)))] rfl (by rfl) ?_ (.old rfl (BLe.refl _) (.old rfl (BLe.rowW (Nat.le_refl _) (ltS (Wks.of rfl) lt0)) .nil))
    ((repeat' first | exact TLes.nil | refine TLes.cons (TLe.eq rfl) ?_); skip)
  intro i hi
  (repeat' ((fail_if_success (show AWp _ _ _ (Code.region 11 _ _) _ _)); first | refine AWp_seq ?_ | (refine AWp_reg tok (by rfl) ?_; conv => whnf) | refine AWp_block ?_ | (refine AWp_skip ?_; conv => whnf) | (refine AWp_exit ?_; conv => whnf) | (refine AWp_ret ?_; conv => whnf) | refine AWp_cond rfl (fun hb => ?_) (fun hb => ?_)))
  · have hlt : i < m.funcs.length := by simp only [decide_eq_true_eq] at hb; omega
    clear hb
    have hgen : ∃ f, m.funcs.getD i default = f := ⟨_, rfl⟩
    obtain ⟨f, hf⟩ := hgen
    have hgen : ∃ g, funN m i = g := ⟨_, rfl⟩
    obtain ⟨g, hg⟩ := hgen
    have hsp := funN_shape hr hlt
    have hblk := fun k (hk : k < (m.funcs.getD i default).blocks.length) => funN_blk hr hlt hk
    have hF := right_fun hr hlt
    rw [hf, hg] at hsp
    rw [hf, hg] at hblk
    rw [hf] at hF
    obtain ⟨hs1, hs2, hs3, hs4⟩ := hsp
    have hfr := hF.2.2.2.1
    have hfr0 : 0 ≤ f.regs := Int.le_trans hF.1 hF.2.2.1
    have hfb : f.blocks.length ≤ 64 := hF.2.2.2.2.2.1
    ((repeat' ((fail_if_success (show AWp _ _ _ (Code.region 12 _ _) _ _)); first | refine AWp_seq ?_ | (refine AWp_any tok mix (by rfl) ?_; conv => whnf) | (refine @And.intro (underG _ _ _ _) _ ?_ ?_; rotate_left; (conv => whnf); rotate_right))); all_goals (try ((guard_target = underG _ _ _ _); refine underG_none ?_; (all_goals (try simp only [underG, true_and, and_true, Bool.cond_true_left, Bool.cond_false_left, Bool.cond_true_right, Bool.cond_false_right, Bool.or_eq_true, Bool.and_eq_true, Bool.or_eq_false_iff, Bool.and_eq_false_iff, cond_true, cond_false, Bool.not_eq_eq_eq_not, Bool.not_true, Bool.not_false, decide_eq_true_eq, decide_eq_false_iff_not, Int.toNat_natCast, Nat.zero_add, Decidable.not_not, maxL, inn_iff] at *)); all_goals omega)))
    refine AWp_weak (Weak.list (tl := [(1, .bp (1, 0, 0) 0), (3, .bp (3, 0, 0) 0), (5, iv i), (6, .bp (6, 0, 0) 0), (7, .bp (7, 0, 0) 0)]) [((1, 0, 0), .old (1, 0, 0), boxed (encMod m)), ((3, 0, 0), .old (3, 0, 0), .row true 1 1 (fun _ => encMod (moduleI m))), ((6, 0, 0), .old (6, 0, 0), .row true 3 1 (fun _ => encFunc f)), ((7, 0, 0), .old (7, 0, 0), .row true 3 1 (fun _ => encFunc g))] rfl (by rfl) ?_ (.old rfl (BLe.refl _) (.old rfl (BLe.refl _) (.old rfl (BLe.rowW (Nat.le_refl _) (ltS (Wks.of (by rw [← hf, Int.toNat_natCast]; rfl)) lt0)) (.old rfl (BLe.rowW (Nat.le_refl _) (ltS (Wks.of (by rw [← hg, ← hMA i hlt, Int.toNat_natCast]; rfl)) lt0)) .nil))))) ?_
    · ((repeat' first | exact TLes.nil | refine TLes.cons (TLe.eq rfl) ?_); skip)
    (repeat' ((fail_if_success (show AWp _ _ _ (Code.region 15 _ _) _ _)); first | refine AWp_seq ?_ | (refine AWp_reg tok (by rfl) ?_; conv => whnf) | refine AWp_block ?_ | (refine AWp_skip ?_; conv => whnf) | (refine AWp_ret ?_; conv => whnf) | refine AWp_cond rfl (fun hb => ?_) (fun hb => ?_)))
    · exfalso
      rw [wrap64 (by omega) (by omega)] at hb
      simp [hs1, hs2] at hb
      omega
    clear hb
    refine AWp_loop (fun k : Nat => mkS [(1, .bp (1, 0, 0) 0), (3, .bp (3, 0, 0) 0), (5, iv i), (6, .bp (6, 0, 0) 0), (7, .bp (7, 0, 0) 0), (8, iv k)] [((1, 0, 0), boxed (encMod m)), ((3, 0, 0), .row true 1 1 (fun _ => encMod (moduleI m))), ((6, 0, 0), .row true 3 1 (fun _ => encFunc f)), ((7, 0, 0), .row true 3 1 (fun _ => encFunc g))]) (fun k => k ≤ f.blocks.length) (fun k => f.blocks.length - k) 0 (Nat.zero_le _) ?_ ?_
    · refine Weak.list [((1, 0, 0), .old (1, 0, 0), boxed (encMod m)), ((3, 0, 0), .old (3, 0, 0), .row true 1 1 (fun _ => encMod (moduleI m))), ((6, 0, 0), .old (6, 0, 0), .row true 3 1 (fun _ => encFunc f)), ((7, 0, 0), .old (7, 0, 0), .row true 3 1 (fun _ => encFunc g))] rfl (by rfl) ?_ (.old rfl (BLe.refl _) (.old rfl (BLe.refl _) (.old rfl (BLe.refl _) (.old rfl (BLe.refl _) .nil))))
      ((repeat' first | exact TLes.nil | refine TLes.cons (TLe.eq rfl) ?_); skip)
    intro k hk
    ((repeat' ((fail_if_success (show AWp _ _ _ (Code.region 18 _ _) _ _)); first | refine AWp_seq ?_ | (refine AWp_reg tok (by rfl) ?_; conv => whnf) | refine AWp_block ?_ | (refine AWp_skip ?_; conv => whnf) | (refine AWp_exit ?_; conv => whnf) | refine AWp_cond rfl (fun hb => ?_) (fun hb => ?_) | (refine @And.intro (underG _ _ _ _) _ ?_ ?_; rotate_left; (conv => whnf); rotate_right))); all_goals (try ((guard_target = underG _ _ _ _); refine underG_none ?_; (all_goals (try simp only [underG, true_and, and_true, Bool.cond_true_left, Bool.cond_false_left, Bool.cond_true_right, Bool.cond_false_right, Bool.or_eq_true, Bool.and_eq_true, Bool.or_eq_false_iff, Bool.and_eq_false_iff, cond_true, cond_false, Bool.not_eq_eq_eq_not, Bool.not_true, Bool.not_false, decide_eq_true_eq, decide_eq_false_iff_not, Int.toNat_natCast, Nat.zero_add, Decidable.not_not, maxL, inn_iff] at *)); all_goals omega)))
    · have hkl : k < f.blocks.length := by simp only [decide_eq_true_eq] at hb; omega
      clear hb
      have hbk := hblk k hkl
      have hcf := (blk_ok (func_blocks (right_funcs hr hlt) (i := k) (by rw [hf]; exact hkl))).ins
      have hc64 := right_ins hr hlt (i := k) (by rw [hf]; exact hkl)
      rw [hf] at hcf hc64
      have hgen : ∃ c, f.blocks.getD k default = c := ⟨_, rfl⟩
      obtain ⟨c, hc⟩ := hgen
      have hgen : ∃ b, g.blocks.getD k default = b := ⟨_, rfl⟩
      obtain ⟨b, hbb⟩ := hgen
      rw [hc, hbb] at hbk
      rw [hc] at hcf hc64
      obtain ⟨hb1, hb2, hb3, hb4⟩ := hbk
      have hcall : ∀ y, y = c.fin → FC Try.prog 37 [.agg (encEnd y), .agg (encEnd b.fin)] (.bool true) := fun y e => by
        have := c_rSameEnd y b.fin
        rw [e, hb1] at this
        rw [e, hb1]; simpa using this
      refine AWp_weak (Weak.list (tl := [(1, .bp (1, 0, 0) 0), (3, .bp (3, 0, 0) 0), (5, iv i), (6, .bp (6, 0, 0) 0), (7, .bp (7, 0, 0) 0), (8, iv k), (9, .bp (9, 0, 0) 0)]) [((1, 0, 0), .old (1, 0, 0), boxed (encMod m)), ((3, 0, 0), .old (3, 0, 0), .row true 1 1 (fun _ => encMod (moduleI m))), ((6, 0, 0), .old (6, 0, 0), .row true 3 1 (fun _ => encFunc f)), ((7, 0, 0), .old (7, 0, 0), .row true 3 1 (fun _ => encFunc g)), ((9, 0, 0), .old (9, 0, 0), .row true 14 1 (fun _ => encBlock b))] rfl (by rfl) ?_ (.old rfl (BLe.refl _) (.old rfl (BLe.refl _) (.old rfl (BLe.refl _) (.old rfl (BLe.refl _) (.old rfl (BLe.rowW (Nat.le_refl _) (ltS (Wks.of (by rw [← hbb, Int.toNat_natCast]; rfl)) lt0)) .nil)))))) ?_
      · ((repeat' first | exact TLes.nil | refine TLes.cons (TLe.eq rfl) ?_); skip)
      ((repeat' first | (refine AWp_any tok mix (by rfl) ?_; conv => whnf) | (refine @And.intro (underG _ _ _ _) _ ?_ ?_; rotate_left; (conv => whnf); rotate_right)); all_goals (try ((guard_target = underG _ _ _ _); refine underG_none ?_; (all_goals (try simp only [underG, true_and, and_true, Bool.cond_true_left, Bool.cond_false_left, Bool.cond_true_right, Bool.cond_false_right, Bool.or_eq_true, Bool.and_eq_true, Bool.or_eq_false_iff, Bool.and_eq_false_iff, cond_true, cond_false, Bool.not_eq_eq_eq_not, Bool.not_true, Bool.not_false, decide_eq_true_eq, decide_eq_false_iff_not, Int.toNat_natCast, Nat.zero_add, Decidable.not_not, maxL, inn_iff] at *)); all_goals omega)))
      refine .inl ⟨_, _, _, uG (QC.fc (hcall ((f.blocks.getD (k : Int).toNat default).fin) (by rw [Int.toNat_natCast, hc])) rfl), ?_⟩
      conv => whnf
      (repeat' ((fail_if_success (show AWp _ _ _ (Code.region 23 _ _) _ _)); first | refine AWp_seq ?_ | (refine AWp_reg tok (by rfl) ?_; conv => whnf) | refine AWp_block ?_ | (refine AWp_skip ?_; conv => whnf) | (refine AWp_ret ?_; conv => whnf) | refine AWp_cond rfl (fun hb => ?_) (fun hb => ?_)))
      · exfalso
        simp at hb; omega
      clear hb
      have hkc : f.blocks.getD (k : Int).toNat default = c := by rw [Int.toNat_natCast, hc]
      refine AWp_loop (fun j : Nat => mkS [(1, .bp (1, 0, 0) 0), (3, .bp (3, 0, 0) 0), (5, iv i), (6, .bp (6, 0, 0) 0), (7, .bp (7, 0, 0) 0), (8, iv k), (9, .bp (9, 0, 0) 0), (10, iv (outX m i (c.ins.take j)).length), (11, .bool ((c.ins.take j).any (inlX m i))), (12, iv j)] [((1, 0, 0), boxed (encMod m)), ((3, 0, 0), .row true 1 1 (fun _ => encMod (moduleI m))), ((6, 0, 0), .row true 3 1 (fun _ => encFunc f)), ((7, 0, 0), .row true 3 1 (fun _ => encFunc g)), ((9, 0, 0), .row true 14 1 (fun _ => encBlock b))]) (fun j => j ≤ c.ins.length) (fun j => c.ins.length - j) 0 (Nat.zero_le _) ?_ ?_
      · refine Weak.list [((1, 0, 0), .old (1, 0, 0), boxed (encMod m)), ((3, 0, 0), .old (3, 0, 0), .row true 1 1 (fun _ => encMod (moduleI m))), ((6, 0, 0), .old (6, 0, 0), .row true 3 1 (fun _ => encFunc f)), ((7, 0, 0), .old (7, 0, 0), .row true 3 1 (fun _ => encFunc g)), ((9, 0, 0), .old (9, 0, 0), .row true 14 1 (fun _ => encBlock b))] rfl (by rfl) ?_ (.old rfl (BLe.refl _) (.old rfl (BLe.refl _) (.old rfl (BLe.refl _) (.old rfl (BLe.refl _) (.old rfl (BLe.refl _) .nil)))))
        ((repeat' first | exact TLes.nil | refine TLes.cons (TLe.eq rfl) ?_); skip)
      intro j hj
      have hol := outX_len m i (c.ins.take j)
      have htl : (c.ins.take j).length = j := by simp; omega
      rw [htl] at hol
      ((repeat' ((fail_if_success (show AWp _ _ _ (Code.region 27 _ _) _ _)); first | refine AWp_seq ?_ | (refine AWp_reg tok (by rfl) ?_; conv => whnf) | refine AWp_block ?_ | (refine AWp_skip ?_; conv => whnf) | (refine AWp_exit ?_; conv => whnf) | (refine AWp_ret ?_; conv => whnf) | refine AWp_cond rfl (fun hb => ?_) (fun hb => ?_) | (refine @And.intro (underG _ _ _ _) _ ?_ ?_; rotate_left; (conv => whnf); rotate_right))); all_goals (try ((guard_target = underG _ _ _ _); refine underG_none ?_; (all_goals (try simp only [underG, true_and, and_true, Bool.cond_true_left, Bool.cond_false_left, Bool.cond_true_right, Bool.cond_false_right, Bool.or_eq_true, Bool.and_eq_true, Bool.or_eq_false_iff, Bool.and_eq_false_iff, cond_true, cond_false, Bool.not_eq_eq_eq_not, Bool.not_true, Bool.not_false, decide_eq_true_eq, decide_eq_false_iff_not, Int.toNat_natCast, Nat.zero_add, Decidable.not_not, maxL, inn_iff] at *)); all_goals omega)))
      · have hlj : j < c.ins.length := by rw [hkc] at hb; simp only [decide_eq_true_eq] at hb; omega
        clear hb
        have hs1 := outX_succ m i hlj
        have hs2 := any_take_succ (p := inlX m i) hlj
        have hx := hcf j hlj
        have hgen : ∃ x, c.ins.getD j default = x := ⟨_, rfl⟩
        obtain ⟨x, hxj⟩ := hgen
        rw [hxj] at hs1 hs2 hx
        refine AWp_weak (Weak.list (tl := [(1, .bp (1, 0, 0) 0), (3, .bp (3, 0, 0) 0), (5, iv i), (6, .bp (6, 0, 0) 0), (7, .bp (7, 0, 0) 0), (8, iv k), (9, .bp (9, 0, 0) 0), (10, iv ((outX m i (c.ins.take j)).length + 1)), (11, .bool ((c.ins.take j).any (inlX m i))), (12, iv j), (13, .bp (13, 0, 0) 0)]) [((1, 0, 0), .old (1, 0, 0), boxed (encMod m)), ((3, 0, 0), .old (3, 0, 0), .row true 1 1 (fun _ => encMod (moduleI m))), ((6, 0, 0), .old (6, 0, 0), .row true 3 1 (fun _ => encFunc f)), ((7, 0, 0), .old (7, 0, 0), .row true 3 1 (fun _ => encFunc g)), ((9, 0, 0), .old (9, 0, 0), .row true 14 1 (fun _ => encBlock b)), ((13, 0, 0), .old (13, 0, 0), .row true 7 1 (fun _ => encIns x))] rfl (by rfl) ?_ (.old rfl (BLe.refl _) (.old rfl (BLe.refl _) (.old rfl (BLe.refl _) (.old rfl (BLe.refl _) (.old rfl (BLe.refl _) (.old rfl (BLe.rowW (Nat.le_refl _) (ltS (Wks.of (by rw [← hxj, ← hc, Int.toNat_natCast, Int.toNat_natCast]; rfl)) lt0)) .nil))))))) ?_
        · ((repeat' first | exact TLes.nil | refine TLes.cons (TLe.eq rfl) ?_ | refine TLes.cons (TLe.int ?_) ?_); (all_goals first | ((try (simp only [underG, true_and, and_true, Bool.cond_true_left, Bool.cond_false_left, Bool.cond_true_right, Bool.cond_false_right, Bool.or_eq_true, Bool.and_eq_true, Bool.or_eq_false_iff, Bool.and_eq_false_iff, cond_true, cond_false, Bool.not_eq_eq_eq_not, Bool.not_true, Bool.not_false, decide_eq_true_eq, decide_eq_false_iff_not, Int.toNat_natCast, Nat.zero_add, Decidable.not_not, maxL, inn_iff] at *)); exact wrap64 (by omega) (by omega)) | skip))
        ((repeat' first | (refine AWp_reg tok (by rfl) ?_; conv => whnf) | (refine @And.intro (underG _ _ _ _) _ ?_ ?_; rotate_left; (conv => whnf); rotate_right)); all_goals (try ((guard_target = underG _ _ _ _); ((refine underG_some ?_; intro hgd; (conv at hgd => whnf))); (all_goals (try simp only [underG, true_and, and_true, Bool.cond_true_left, Bool.cond_false_left, Bool.cond_true_right, Bool.cond_false_right, Bool.or_eq_true, Bool.and_eq_true, Bool.or_eq_false_iff, Bool.and_eq_false_iff, cond_true, cond_false, Bool.not_eq_eq_eq_not, Bool.not_true, Bool.not_false, decide_eq_true_eq, decide_eq_false_iff_not, Int.toNat_natCast, Nat.zero_add, Decidable.not_not, maxL, inn_iff] at *)); all_goals omega)))
        refine .inl ⟨_, _, _, uG (QC.fc (c_Small (m.funcs.getD x.f.toNat default)) rfl), ?_⟩
        conv => whnf
        have hbl : (blkX m i x).length = if inlX m i x = true then (m.funcs.getD x.f.toNat default).regs.toNat + ((m.funcs.getD x.f.toNat default).blocks.getD 0 default).ins.length + 1 else 1 := by
          unfold blkX; split
          · exact openL_len _ _ _
          · rfl
        (repeat' ((fail_if_success (show AWp _ _ _ (Code.region 28 _ _) _ _)); first | refine AWp_seq ?_ | (refine AWp_reg tok (by rfl) ?_; conv => whnf) | (refine AWp_skip ?_; conv => whnf) | refine AWp_cond rfl (fun hb => ?_) (fun hb => ?_)))
        · have hin : inlX m i x = true := by
            unfold inlX
            rw [Bool.and_eq_true, decide_eq_true_eq]
            simp [cond_eq_ite] at hb
            grind
          clear hb
          have hop : x.op = 11 := by
            have := hin
            unfold inlX at this; rw [Bool.and_eq_true, decide_eq_true_eq] at this; exact this.1.1
          have hsm : smallF (m.funcs.getD x.f.toNat default) = true := by
            have := hin
            unfold inlX at this; rw [Bool.and_eq_true] at this; exact this.2
          obtain ⟨hx1, hx2⟩ := hx hop
          have hFx := right_fun hr (n := x.f.toNat) (by omega)
          have hreg0 : 0 ≤ (m.funcs.getD x.f.toNat default).regs := Int.le_trans hFx.1 hFx.2.2.1
          obtain ⟨hg1, hg2, hg3, _, _⟩ := smallF_of hsm
          rw [hin] at hbl hs2
          rw [if_pos rfl] at hbl
          ((repeat' first | (refine AWp_reg tok (by rfl) ?_; conv => whnf) | (refine AWp_any tok mix (by rfl) ?_; conv => whnf) | (refine @And.intro (underG _ _ _ _) _ ?_ ?_; rotate_left; (conv => whnf); rotate_right)); all_goals (try ((guard_target = underG _ _ _ _); refine underG_none ?_; (all_goals (try simp only [underG, true_and, and_true, Bool.cond_true_left, Bool.cond_false_left, Bool.cond_true_right, Bool.cond_false_right, Bool.or_eq_true, Bool.and_eq_true, Bool.or_eq_false_iff, Bool.and_eq_false_iff, cond_true, cond_false, Bool.not_eq_eq_eq_not, Bool.not_true, Bool.not_false, decide_eq_true_eq, decide_eq_false_iff_not, Int.toNat_natCast, Nat.zero_add, Decidable.not_not, maxL, inn_iff] at *)); all_goals omega)))
          refine ⟨j + 1, hlj, by omega, ?_⟩
          refine Weak.list [((1, 0, 0), .old (1, 0, 0), boxed (encMod m)), ((3, 0, 0), .old (3, 0, 0), .row true 1 1 (fun _ => encMod (moduleI m))), ((6, 0, 0), .old (6, 0, 0), .row true 3 1 (fun _ => encFunc f)), ((7, 0, 0), .old (7, 0, 0), .row true 3 1 (fun _ => encFunc g)), ((9, 0, 0), .old (9, 0, 0), .row true 14 1 (fun _ => encBlock b))] rfl (by rfl) ?_ (.old rfl (BLe.refl _) (.old rfl (BLe.refl _) (.old rfl (BLe.refl _) (.old rfl (BLe.refl _) (.old rfl (BLe.refl _) .nil)))))
          ((repeat' first | exact TLes.nil | refine TLes.cons (TLe.eq rfl) ?_ | refine TLes.cons (TLe.int ?_) ?_ | refine TLes.cons (TLe.bool ?_) ?_); (all_goals first | ((try (simp only [underG, true_and, and_true, Bool.cond_true_left, Bool.cond_false_left, Bool.cond_true_right, Bool.cond_false_right, Bool.or_eq_true, Bool.and_eq_true, Bool.or_eq_false_iff, Bool.and_eq_false_iff, cond_true, cond_false, Bool.not_eq_eq_eq_not, Bool.not_true, Bool.not_false, decide_eq_true_eq, decide_eq_false_iff_not, Int.toNat_natCast, Nat.zero_add, Decidable.not_not, maxL, inn_iff] at *)); exact wrap64 (by omega) (by omega)) | skip))
          · have e0 : Int.toNat 0 = 0 := rfl
            rw [e0, hs1, List.length_append, hbl]
            generalize ((m.funcs.getD x.f.toNat default).blocks.getD 0 default).ins.length = q at hg3 ⊢
            rw [wrap64 (x := (m.funcs.getD x.f.toNat default).regs + q) (by omega) (by omega), wrap64 (by omega) (by omega)]
            omega
          · rw [hs2]; simp
        · have hin : inlX m i x = false := by
            unfold inlX
            rw [Bool.and_eq_false_iff, decide_eq_false_iff_not]
            simp [cond_eq_ite] at hb
            grind
          clear hb
          rw [hin] at hbl hs2
          rw [if_neg (by simp)] at hbl
          refine ⟨j + 1, hlj, by omega, ?_⟩
          refine Weak.list [((1, 0, 0), .old (1, 0, 0), boxed (encMod m)), ((3, 0, 0), .old (3, 0, 0), .row true 1 1 (fun _ => encMod (moduleI m))), ((6, 0, 0), .old (6, 0, 0), .row true 3 1 (fun _ => encFunc f)), ((7, 0, 0), .old (7, 0, 0), .row true 3 1 (fun _ => encFunc g)), ((9, 0, 0), .old (9, 0, 0), .row true 14 1 (fun _ => encBlock b))] rfl (by rfl) ?_ (.old rfl (BLe.refl _) (.old rfl (BLe.refl _) (.old rfl (BLe.refl _) (.old rfl (BLe.refl _) (.old rfl (BLe.refl _) .nil)))))
          ((repeat' first | exact TLes.nil | refine TLes.cons (TLe.eq rfl) ?_ | refine TLes.cons (TLe.int ?_) ?_ | refine TLes.cons (TLe.bool ?_) ?_); (all_goals first | ((try (simp only [underG, true_and, and_true, Bool.cond_true_left, Bool.cond_false_left, Bool.cond_true_right, Bool.cond_false_right, Bool.or_eq_true, Bool.and_eq_true, Bool.or_eq_false_iff, Bool.and_eq_false_iff, cond_true, cond_false, Bool.not_eq_eq_eq_not, Bool.not_true, Bool.not_false, decide_eq_true_eq, decide_eq_false_iff_not, Int.toNat_natCast, Nat.zero_add, Decidable.not_not, maxL, inn_iff] at *)); exact wrap64 (by omega) (by omega)) | skip))
          · rw [hs1, List.length_append, hbl]; omega
          · rw [hs2]; simp
      · exfalso
        have hjl : j = c.ins.length := by rename_i hbj; rw [hkc] at hbj; simp only [decide_eq_false_iff_not] at hbj; omega
        subst hjl
        rw [List.take_length] at hb hol
        cases ha : c.ins.any (inlX m i) <;> rw [ha] at hb
        · have := hb3 ha
          simp [this] at hb
        · rw [wrap64 (by omega) (by omega)] at hb
          simp at hb
          have := hb4 (by omega) (by omega)
          omega
      · refine ⟨k + 1, hkl, by omega, ?_⟩
        refine Weak.list [((1, 0, 0), .old (1, 0, 0), boxed (encMod m)), ((3, 0, 0), .old (3, 0, 0), .row true 1 1 (fun _ => encMod (moduleI m))), ((6, 0, 0), .old (6, 0, 0), .row true 3 1 (fun _ => encFunc f)), ((7, 0, 0), .old (7, 0, 0), .row true 3 1 (fun _ => encFunc g))] rfl (by rfl) ?_ (.old rfl (BLe.refl _) (.old rfl (BLe.refl _) (.old rfl (BLe.refl _) (.old rfl (BLe.refl _) .nil))))
        ((repeat' first | exact TLes.nil | refine TLes.cons (TLe.eq rfl) ?_ | refine TLes.cons (TLe.int ?_) ?_); (all_goals first | ((try (simp only [underG, true_and, and_true, Bool.cond_true_left, Bool.cond_false_left, Bool.cond_true_right, Bool.cond_false_right, Bool.or_eq_true, Bool.and_eq_true, Bool.or_eq_false_iff, Bool.and_eq_false_iff, cond_true, cond_false, Bool.not_eq_eq_eq_not, Bool.not_true, Bool.not_false, decide_eq_true_eq, decide_eq_false_iff_not, Int.toNat_natCast, Nat.zero_add, Decidable.not_not, maxL, inn_iff] at *)); exact wrap64 (by omega) (by omega)) | skip))
    · refine ⟨i + 1, hlt, by omega, ?_⟩
      refine Weak.list [((1, 0, 0), .old (1, 0, 0), boxed (encMod m)), ((3, 0, 0), .old (3, 0, 0), .row true 1 1 (fun _ => encMod (moduleI m)))] rfl (by rfl) ?_ (.old rfl (BLe.refl _) (.old rfl (BLe.refl _) .nil))
      ((repeat' first | exact TLes.nil | refine TLes.cons (TLe.eq rfl) ?_ | refine TLes.cons (TLe.int ?_) ?_); (all_goals first | ((try (simp only [underG, true_and, and_true, Bool.cond_true_left, Bool.cond_false_left, Bool.cond_true_right, Bool.cond_false_right, Bool.or_eq_true, Bool.and_eq_true, Bool.or_eq_false_iff, Bool.and_eq_false_iff, cond_true, cond_false, Bool.not_eq_eq_eq_not, Bool.not_true, Bool.not_false, decide_eq_true_eq, decide_eq_false_iff_not, Int.toNat_natCast, Nat.zero_add, Decidable.not_not, maxL, inn_iff] at *)); exact wrap64 (by omega) (by omega)) | skip))
  · exact ⟨_, rfl, Rel.bool rfl⟩
end Go.Proofs.Ytmanpbgaihdalaa
namespace Go.Proofs.Ytmanpbgaihdalaa
open Go Dv Go.ChangeShapes Go.WideShapes Go.ChangeAt Go.RowKit
open Go.Proofs.Ytmanpbgaihdalaa
set_option maxRecDepth 100000
set_option linter.unusedVariables false
namespace inlineLeft
theorem own : ownKnob Try.prog.godebug = none := by kernel_rfl
theorem contract (H : Type) (enc : TypeId × Value → H) (W : World) (base : Nat) (args : Array Value) (ds gs : List (DataW H)) (before : List MemPlace) (hk : Rows.uptoSmall H (ds ++ gs) = true)
    (hval : ∀ (j : Nat) t v, Try.f9.params[j]? = some t → args[j]? = some v → Value.okWide Try.prog W .any base t v)
    (hW : DataW.Whole enc Try.prog Try.f9.params.toList Rows.inlineLeftSpec.vars false W args.toList ds gs before) :
    Calls Try.prog 9 args W fun e W' => ∃ v, e = .returned v ∧ Rows.inlineLeftSpec.post enc Try.prog Try.f9 false true false false W args v W' := by
  have hsm := small_of hk
  have hW' := hW
  obtain ⟨p, q, hA0, hV, rfl, hfz, hnd⟩ := hW
  have hA : DataW.TrodAll enc Try.prog W 0 (fun _ => true) true Try.f9.params.toList args.toList ds p := hA0
  rw [Try.params9] at hA hval
  obtain ⟨v0, vs0, d0, ds0, p0, q0, hargs, rfl, rfl, h0, r0⟩ := trodAll_cons hA
  obtain ⟨rfl, rfl, rfl⟩ := trodAll_nil r0
  obtain rfl : args = #[v0] := by cases args; simp_all
  obtain ⟨x0, hx0⟩ := arg_struct Try.underlying24 (hval 0 _ v0 rfl rfl) h0 rd_Module (hsm d0 (by simp))
  obtain ⟨rfl, rfl⟩ := trodVars_none hV
  refine law_contract (tb := 4) (by decide +kernel) (by rw [Try.params9]; decide +kernel) rfl (by kernel_rfl) Try.underlying4 hW' ⟨rfl, rfl, rfl⟩ (FC.calls (c_InlineLeft x0) ?_)
  simp only [Vs]
  exact ⟨_, _, rfl, hx0, rfl⟩
theorem lifted (os : Os) (started : os.Started) (H : Type) (enc : TypeId × Value → H) (F : Stop.Interp) :
    ReturnsInHanded {} Try.checked os 9 .any ((Rows.OpenSpec.upto Rows.inlineLeftSpec).pre6 enc Try.prog Try.f9 Rows.inlineLeftUptoRow.domain false) (((Rows.OpenSpec.upto Rows.inlineLeftSpec).at F).post enc Try.prog Try.f9 false true false false) := by
  refine returnsInHanded_of_cond (C := Try.checked) (s := Rows.OpenSpec.upto Rows.inlineLeftSpec) (k := Rows.uptoSmall) rfl own started (by kernel_rfl) Try.func9
    (OpenSpec.witness (enc := enc) (C := Try.checked) (s := Rows.OpenSpec.upto Rows.inlineLeftSpec) (k := Rows.uptoSmall) rfl false ⟨#[], #[.agg #[.slice none 0 0]], []⟩ 64 (by kernel_rfl) (by kernel_rfl) (by kernel_rfl)
      (x := ([.agg [.nil]], [], [])) (by kernel_rfl) rfl (by kernel_rfl)) ?_
  intro W base args ds gs before hval hW _ hk _
  exact contract H enc W base args ds gs before hk hval hW
theorem over : Rows.inlineLeftUptoRow.holds Try.pinned (Rows.OpenSpec.upto Rows.inlineLeftSpec) :=
  OpenClaim.holds_of_cond 9 Try.f9 rfl rfl rfl rfl rfl rfl rfl ⟨rfl, rfl, rfl, rfl, rfl⟩ rfl rfl rfl rfl rfl (by kernel_rfl) Try.func9 (by kernel_rfl)
    (of_decide_eq_true (by kernel_rfl)) (by unfold Func.isWrapper; first | (rw [if_pos (by decide +kernel)]; kernel_rfl) | (rw [if_neg (by decide +kernel)]; exact ⟨rfl, rfl⟩))
    (fun os started H enc _ F => lifted os started H enc F)
end inlineLeft
theorem inlineLeft_holds : Rows.InlineLeftUptoSaid := inlineLeft.over
end Go.Proofs.Ytmanpbgaihdalaa
