/- For every block, davitlaw17.SameSets returns true and leaves its argument as it was. Conditions: the arguments hold together at most 1048576 values (the form UptoSaid). -/
import Derived.Test.YtmkiahbnfmpieaaDvc3
import Derived.Test.YtmkiahbnfmpieaaProg
import Derived.Test.YtmkiahbnfmpieaaRows
import Derived.WalkKit
import Derived.ProofKit
import Derived.OpenShut
import Derived.JoinedCond
set_option linter.unusedVariables false
set_option linter.unusedSimpArgs false
set_option linter.unnecessarySimpa false
namespace Go.Proofs.Ytmkiahbnfmpieaa
open Go Dv

def table : List (Nat × Dv.TI) := [
  (1, ⟨1, 8, .other, [.nfn]⟩),
  (2, ⟨1, 8, .int .i64, [.int .i64 0]⟩),
  (3, ⟨1, 8, .int .i64, [.int .i64 0]⟩),
  (4, ⟨1, 1, .bool, [.bool false]⟩),
  (5, ⟨1, 1, .int .u8, [.int .u8 0]⟩),
  (6, ⟨1, 1, .int .u8, [.int .u8 0]⟩),
  (7, ⟨4, 24, .struct [(0, 2), (1, 3), (2, 4), (3, 6)], [.int .i64 0, .int .i64 0, .bool false, .int .u8 0]⟩),
  (8, ⟨4, 24, .struct [(0, 2), (1, 3), (2, 4), (3, 6)], [.int .i64 0, .int .i64 0, .bool false, .int .u8 0]⟩),
  (9, ⟨1, 16, .string, [.str ⟨#[]⟩]⟩),
  (10, ⟨1, 16, .string, [.str ⟨#[]⟩]⟩),
  (11, ⟨1, 16, .string, [.str ⟨#[]⟩]⟩),
  (12, ⟨1, 8, .int .u64, [.int .u64 0]⟩),
  (13, ⟨2, 24, .struct [(0, 9), (1, 12)], [.str ⟨#[]⟩, .int .u64 0]⟩),
  (14, ⟨2, 24, .struct [(0, 9), (1, 12)], [.str ⟨#[]⟩, .int .u64 0]⟩),
  (15, ⟨1, 8, .other, [.np]⟩),
  (16, ⟨1, 8, .other, [.np]⟩),
  (17, ⟨1, 8, .other, [.np]⟩),
  (18, ⟨1, 8, .struct [(0, 17)], [.np]⟩),
  (19, ⟨1, 8, .struct [(0, 17)], [.np]⟩),
  (20, ⟨1, 16, .other, [.nif]⟩),
  (21, ⟨1, 4, .int .i32, [.int .i32 0]⟩),
  (22, ⟨1, 24, .slice 34, [.nsl]⟩),
  (23, ⟨4, 40, .struct [(0, 3), (1, 22), (2, 4), (3, 4)], [.int .i64 0, .nsl, .bool false, .bool false]⟩),
  (24, ⟨4, 40, .struct [(0, 3), (1, 22), (2, 4), (3, 4)], [.int .i64 0, .nsl, .bool false, .bool false]⟩),
  (25, ⟨1, 24, .slice 36, [.nsl]⟩),
  (26, ⟨1, 24, .slice 3, [.nsl]⟩),
  (27, ⟨8, 80, .struct [(0, 3), (1, 3), (2, 3), (3, 3), (4, 26), (5, 3), (6, 3), (7, 3)], [.int .i64 0, .int .i64 0, .int .i64 0, .int .i64 0, .nsl, .int .i64 0, .int .i64 0, .int .i64 0]⟩),
  (28, ⟨8, 80, .struct [(0, 3), (1, 3), (2, 3), (3, 3), (4, 26), (5, 3), (6, 3), (7, 3)], [.int .i64 0, .int .i64 0, .int .i64 0, .int .i64 0, .nsl, .int .i64 0, .int .i64 0, .int .i64 0]⟩),
  (29, ⟨14, 152, .struct [(0, 4), (1, 24), (5, 25), (6, 28)], [.bool false, .int .i64 0, .nsl, .bool false, .bool false, .nsl, .int .i64 0, .int .i64 0, .int .i64 0, .int .i64 0, .nsl, .int .i64 0, .int .i64 0, .int .i64 0]⟩),
  (30, ⟨14, 152, .struct [(0, 4), (1, 24), (5, 25), (6, 28)], [.bool false, .int .i64 0, .nsl, .bool false, .bool false, .nsl, .int .i64 0, .int .i64 0, .int .i64 0, .int .i64 0, .nsl, .int .i64 0, .int .i64 0, .int .i64 0]⟩),
  (31, ⟨1, 8, .other, [.nfn]⟩),
  (32, ⟨1, 8, .other, [.nfn]⟩),
  (33, ⟨1, 8, .other, [.nfn]⟩),
  (34, ⟨1, 2, .int .u16, [.int .u16 0]⟩),
  (35, ⟨7, 72, .struct [(0, 3), (1, 3), (2, 3), (3, 3), (4, 34), (5, 3), (6, 26)], [.int .i64 0, .int .i64 0, .int .i64 0, .int .i64 0, .int .u16 0, .int .i64 0, .nsl]⟩),
  (36, ⟨7, 72, .struct [(0, 3), (1, 3), (2, 3), (3, 3), (4, 34), (5, 3), (6, 26)], [.int .i64 0, .int .i64 0, .int .i64 0, .int .i64 0, .int .u16 0, .int .i64 0, .nsl]⟩),
  (37, ⟨1, 8, .other, [.nfn]⟩),
  (38, ⟨1, 8, .other, [.nfn]⟩),
  (39, ⟨1, 8, .other, [.nfn]⟩),
  (40, ⟨1, 24, .slice 30, [.nsl]⟩),
  (41, ⟨3, 40, .struct [(0, 3), (1, 3), (2, 40)], [.int .i64 0, .int .i64 0, .nsl]⟩),
  (42, ⟨3, 40, .struct [(0, 3), (1, 3), (2, 40)], [.int .i64 0, .int .i64 0, .nsl]⟩),
  (43, ⟨1, 8, .other, [.nfn]⟩),
  (44, ⟨1, 8, .other, [.nfn]⟩),
  (45, ⟨1, 8, .other, [.nfn]⟩),
  (46, ⟨1, 24, .slice 4, [.nsl]⟩),
  (47, ⟨1, 8, .other, [.nfn]⟩),
  (48, ⟨1, 8, .other, [.nfn]⟩),
  (49, ⟨1, 8, .other, [.nfn]⟩),
  (50, ⟨1, 8, .other, [.nfn]⟩),
  (51, ⟨1, 8, .other, [.nfn]⟩),
  (52, ⟨1, 8, .other, [.nfn]⟩),
  (53, ⟨1, 8, .map ⟨true, 3, .i64, .i64⟩ 58 3, [.any]⟩),
  (54, ⟨1, 8, .map ⟨true, 3, .i64, .i64⟩ 58 3, [.any]⟩),
  (55, ⟨1, 8, .other, [.nfn]⟩),
  (56, ⟨1, 8, .other, [.np]⟩),
  (57, ⟨3, 24, .struct [(0, 3), (1, 3), (2, 3)], [.int .i64 0, .int .i64 0, .int .i64 0]⟩),
  (58, ⟨3, 24, .struct [(0, 3), (1, 3), (2, 3)], [.int .i64 0, .int .i64 0, .int .i64 0]⟩),
  (60, ⟨1, 8, .other, [.nfn]⟩),
  (62, ⟨1, 8, .other, [.nfn]⟩),
  (63, ⟨1, 8, .map ⟨false, 1, .i64, .u16⟩ 3 34, [.any]⟩),
  (64, ⟨1, 8, .map ⟨false, 1, .i64, .u16⟩ 3 34, [.any]⟩),
  (66, ⟨1, 8, .other, [.nfn]⟩),
  (67, ⟨1, 8, .other, [.nfn]⟩),
  (68, ⟨1, 8, .other, [.nfn]⟩),
  (69, ⟨1, 8, .other, [.nfn]⟩),
  (70, ⟨1, 8, .other, [.nfn]⟩),
  (71, ⟨1, 8, .other, [.nfn]⟩),
  (72, ⟨5, 88, .struct [(0, 42), (3, 46), (4, 26)], [.int .i64 0, .int .i64 0, .nsl, .nsl, .nsl]⟩),
  (73, ⟨5, 88, .struct [(0, 42), (3, 46), (4, 26)], [.int .i64 0, .int .i64 0, .nsl, .nsl, .nsl]⟩),
  (74, ⟨1, 8, .other, [.np]⟩),
  (75, ⟨1, 8, .other, [.nfn]⟩),
  (76, ⟨1, 8, .other, [.nfn]⟩),
  (77, ⟨1, 8, .other, [.nfn]⟩),
  (78, ⟨1, 8, .other, [.nfn]⟩),
  (79, ⟨1, 8, .other, [.nfn]⟩),
  (80, ⟨1, 8, .other, [.nfn]⟩),
  (81, ⟨1, 8, .other, [.nfn]⟩),
  (82, ⟨1, 8, .other, [.nfn]⟩),
  (83, ⟨4, 40, .struct [(0, 17), (1, 17), (2, 17), (3, 9)], [.np, .np, .np, .str ⟨#[]⟩]⟩),
  (84, ⟨4, 40, .struct [(0, 17), (1, 17), (2, 17), (3, 9)], [.np, .np, .np, .str ⟨#[]⟩]⟩),
  (85, ⟨0, 0, .array 0 16, []⟩),
  (86, ⟨0, 0, .struct [(0, 85)], []⟩),
  (87, ⟨0, 0, .struct [(0, 85)], []⟩),
  (88, ⟨1, 8, .other, [.nfn]⟩),
  (89, ⟨1, 4, .int .u32, [.int .u32 0]⟩),
  (90, ⟨1, 1, .int .u8, [.int .u8 0]⟩),
  (91, ⟨1, 1, .int .u8, [.int .u8 0]⟩),
  (92, ⟨1, 8, .other, [.nfn]⟩),
  (93, ⟨1, 8, .other, [.np]⟩),
  (94, ⟨1, 4, .int .i32, [.int .i32 0]⟩),
  (95, ⟨1, 4, .int .i32, [.int .i32 0]⟩),
  (96, ⟨11, 48, .struct [(0, 12), (1, 12), (2, 89), (3, 90), (4, 5), (5, 5), (6, 91), (7, 92), (8, 93), (9, 94), (10, 95)], [.int .u64 0, .int .u64 0, .int .u32 0, .int .u8 0, .int .u8 0, .int .u8 0, .int .u8 0, .nfn, .np, .int .i32 0, .int .i32 0]⟩),
  (97, ⟨11, 48, .struct [(0, 12), (1, 12), (2, 89), (3, 90), (4, 5), (5, 5), (6, 91), (7, 92), (8, 93), (9, 94), (10, 95)], [.int .u64 0, .int .u64 0, .int .u32 0, .int .u8 0, .int .u8 0, .int .u8 0, .int .u8 0, .nfn, .np, .int .i32 0, .int .i32 0]⟩)]
theorem tok : TOk Try.prog (findT table) := table_ok (by kernel_rfl)
abbrev T := findT table
end Go.Proofs.Ytmkiahbnfmpieaa
namespace Go.Proofs.Ytmkiahbnfmpieaa
open Go Dv
set_option maxRecDepth 10000
set_option linter.unusedSimpArgs false
theorem mix : Try.prog.follows .mixedOrders = true := by decide +kernel
structure Ins where
  (op dst a b k f : Int)
  args : List Int
deriving Inhabited
structure End where
  (kind a dst f : Int)
  args : List Int
  (to els pad : Int)
deriving Inhabited
structure Pad where
  dst : Int
  catch_ : List Int
  (all cleanup : Bool)
deriving Inhabited
structure Block where
  landing : Bool
  pad : Pad
  ins : List Ins
  fin : End
deriving Inhabited
structure Func where
  (params regs : Int)
  blocks : List Block
deriving Inhabited
abbrev iv (n : Int) : AV := .int .i64 n
def ints (l : List Int) : AV := .sl 1 l.length fun i => [iv (l.getD i 0)]
def u16s (l : List Int) : AV := .sl 1 l.length fun i => [.int .u16 (l.getD i 0)]
def encIns (x : Ins) : List AV := [iv x.op, iv x.dst, iv x.a, iv x.b, .int .u16 x.k, iv x.f, ints x.args]
def inss (l : List Ins) : AV := .sl 7 l.length fun i => encIns (l.getD i default)
def encEnd (e : End) : List AV := [iv e.kind, iv e.a, iv e.dst, iv e.f, ints e.args, iv e.to, iv e.els, iv e.pad]
def encBlock (b : Block) : List AV := [.bool b.landing, iv b.pad.dst, u16s b.pad.catch_, .bool b.pad.all, .bool b.pad.cleanup, inss b.ins, iv b.fin.kind, iv b.fin.a, iv b.fin.dst, iv b.fin.f, ints b.fin.args, iv b.fin.to, iv b.fin.els, iv b.fin.pad]
def blockss (l : List Block) : AV := .sl 14 l.length fun i => encBlock (l.getD i default)
def encFunc (f : Func) : List AV := [iv f.params, iv f.regs, blockss f.blocks]

def goals (b : Block) : List Int := if b.fin.kind = 2 ∨ b.fin.kind = 4 then [b.fin.to] else if b.fin.kind = 3 then [b.fin.to, b.fin.els] else []
theorem fc34 (b : Block) : FC Try.prog 34 [.agg (encBlock b)] (ints (goals b)) := by
  refine FC_intro tok Try.func34 rfl (by decide +kernel) (Nat.le_of_ble_eq_true rfl) ?_
  repeat' first | refine AWp_seq ?_ | (refine AWp_reg tok (by rfl) ?_; conv => whnf) | (refine AWp_any tok mix (by rfl) ?_; conv => whnf) | refine AWp_block ?_ | (refine AWp_skip ?_; conv => whnf) | (refine AWp_exit ?_; conv => whnf) | (refine AWp_ret ?_; conv => whnf) | refine AWp_cond rfl (fun hb => ?_) (fun hb => ?_) | (refine @And.intro (underG _ _ _ _) _ ?_ ?_; rotate_left; (conv => whnf); rotate_right) | (refine fun (bn : Bool) (hbn : (0 < _ → bn = _)) => ?_; conv => whnf)
  all_goals simp only [underG, Bool.not_eq_eq_eq_not, Bool.not_true, Bool.not_false, decide_eq_true_eq, decide_eq_false_iff_not, Int.toNat_natCast, Decidable.not_not, maxL] at *
  all_goals first | (exfalso; omega; done) | skip
  · have e : goals b = [b.fin.to] := by simp [goals, hb]
    rw [e]
    exact ⟨_, rfl, Rel.rsImm rfl (by decide) (fun i hi => by match i, hi with | 0, _ => rfl)⟩
  · have e : goals b = [b.fin.to] := by simp [goals, hb]
    rw [e]
    exact ⟨_, rfl, Rel.rsImm rfl (by decide) (fun i hi => by match i, hi with | 0, _ => rfl)⟩
  · have e : goals b = [b.fin.to, b.fin.els] := by simp [goals, hb]
    rw [e]
    exact ⟨_, rfl, Rel.rsImm rfl (by decide) (fun i hi => by match i, hi with | 0, _ => rfl | 1, _ => rfl)⟩
  · have e : goals b = [] := by simp [goals, *]
    rw [e]
    exact ⟨_, rfl, Rel.nsl' rfl⟩
theorem fo33 (l : List Int) : FO Try.prog 33 [ints l] 1 l.length (fun i => [iv (l.getD i 0)]) := by
  refine FO_intro tok Try.func33 rfl (by decide +kernel) (Nat.le_of_ble_eq_true rfl) ?_
  refine AWp_facts 0 (fun hl => ?_)
  have hl0 : l.length ≤ maxL := hl.1
  repeat' first | refine AWp_seq ?_ | (refine AWp_reg tok (by rfl) ?_; conv => whnf) | (refine AWp_any tok mix (by rfl) ?_; conv => whnf) | refine AWp_block ?_ | (refine AWp_skip ?_; conv => whnf) | (refine AWp_exit ?_; conv => whnf) | (refine AWp_ret ?_; conv => whnf) | refine AWp_cond rfl (fun hb => ?_) (fun hb => ?_) | (refine @And.intro (underG _ _ _ _) _ ?_ ?_; rotate_left; (conv => whnf); rotate_right) | (refine fun (bn : Bool) (hbn : (0 < _ → bn = _)) => ?_; conv => whnf)
  · refine ⟨_, rfl, RelO.nsl' ?_⟩
    rcases Nat.eq_zero_or_pos l.length with h | h
    · exact h
    · rw [hbn h] at hb; cases hb
  · exact ⟨trivial, by decide, by rw [Nat.zero_add]; exact hl0⟩
  · refine ⟨_, rfl, RelO.rs rfl (Nat.le_refl _) (by simp) (fun i hi => ?_)⟩
    show appR 0 (rowOf 1 []) (fun i => [iv (l.getD i 0)]) i = _
    exact appR_zero _ _ _
theorem fc32 (F : Func) (n : Int) : FC Try.prog 32 [.agg (encFunc F), iv n] (.bool (bif decide (0 ≤ n) then decide (n < (F.blocks.length : Int)) else false)) := by
  refine FC_intro tok Try.func32 rfl (by decide +kernel) (Nat.le_of_ble_eq_true rfl) ?_
  repeat' first | refine AWp_seq ?_ | (refine AWp_reg tok (by rfl) ?_; conv => whnf) | (refine AWp_any tok mix (by rfl) ?_; conv => whnf) | refine AWp_block ?_ | (refine AWp_skip ?_; conv => whnf) | (refine AWp_exit ?_; conv => whnf) | (refine AWp_ret ?_; conv => whnf) | refine AWp_cond rfl (fun hb => ?_) (fun hb => ?_) | (refine @And.intro (underG _ _ _ _) _ ?_ ?_; rotate_left; (conv => whnf); rotate_right) | (refine fun (bn : Bool) (hbn : (0 < _ → bn = _)) => ?_; conv => whnf)
  exact ⟨_, rfl, Rel.imm rfl⟩
end Go.Proofs.Ytmkiahbnfmpieaa
namespace Go.Proofs.Ytmkiahbnfmpieaa
open Go Dv
set_option maxRecDepth 10000
set_option linter.unusedSimpArgs false
abbrev isIn (F : Func) (n : Int) : Bool := bif decide (0 ≤ n) then decide (n < (F.blocks.length : Int)) else false
abbrev i0 : Dv.Id := (0, 7, 0)
abbrev i1 : Dv.Id := (1, 7, 0)
def fbox (F : Func) : ABlock := .row true 3 1 (fun _ => encFunc F)
theorem hc36 (F : Func) (k : Int) : HC Try.prog [i1] 36 [(i1, fbox F)] [iv k, .bp i1 0] (.bool (!isIn F k)) [(i1, fbox F)] := by
  refine HC_intro tok Try.func36 rfl (by decide +kernel) (Nat.le_of_ble_eq_true rfl) ?_
  repeat' first | refine AWp_seq ?_ | (refine AWp_reg tok (by rfl) ?_; conv => whnf) | (refine AWp_any tok mix (by rfl) ?_; conv => whnf) | refine AWp_block ?_ | (refine AWp_skip ?_; conv => whnf) | (refine AWp_exit ?_; conv => whnf) | (refine AWp_ret ?_; conv => whnf) | refine AWp_cond rfl (fun hb => ?_) (fun hb => ?_) | (refine @And.intro (underG _ _ _ _) _ ?_ ?_; rotate_left; (conv => whnf); rotate_right) | (refine fun (bn : Bool) (hbn : (0 < _ → bn = _)) => ?_; conv => whnf)
  refine .inl ⟨_, _, _, QC.fc (fc32 F k) rfl, ?_⟩
  conv => whnf
  repeat' first | refine AWp_seq ?_ | (refine AWp_reg tok (by rfl) ?_; conv => whnf) | (refine AWp_any tok mix (by rfl) ?_; conv => whnf) | refine AWp_block ?_ | (refine AWp_skip ?_; conv => whnf) | (refine AWp_exit ?_; conv => whnf) | (refine AWp_ret ?_; conv => whnf) | refine AWp_cond rfl (fun hb => ?_) (fun hb => ?_) | (refine @And.intro (underG _ _ _ _) _ ?_ ?_; rotate_left; (conv => whnf); rotate_right) | (refine fun (bn : Bool) (hbn : (0 < _ → bn = _)) => ?_; conv => whnf)
  exact ⟨_, [(i1, .old i1, fbox F)], rfl, rfl, rfl, rfl, .old rfl (BLe.refl _) .nil, .eq rfl⟩
/-- where the first is that a test lets through -/
def idxOf (p : Int → Bool) (l : List Int) : Int := match l.findIdx? p with
  | some i => i
  | none => -1
theorem idx_at {p : Int → Bool} {l : List Int} {i : Nat} (hi : i < l.length) (hc : ∀ j, j < i → p (l.getD j 0) = false) (hp : p (l.getD i 0) = true) : idxOf p l = i := by
  have h : l.findIdx? p = some i := by
    rw [List.findIdx?_eq_some_iff_getElem]
    refine ⟨hi, ?_, fun j hj => ?_⟩
    · simpa [List.getD_eq_getElem?_getD, hi] using hp
    · have := hc j hj
      have hjl : j < l.length := by omega
      simpa [List.getD_eq_getElem?_getD, hjl] using this
  simp [idxOf, h]
theorem idx_none {p : Int → Bool} {l : List Int} (hc : ∀ j, j < l.length → p (l.getD j 0) = false) : idxOf p l = -1 := by
  have h : l.findIdx? p = none := by
    rw [List.findIdx?_eq_none_iff]
    intro x hx
    obtain ⟨j, hj, rfl⟩ := List.getElem_of_mem hx
    have := hc j hj
    simpa [List.getD_eq_getElem?_getD, hj] using this
  simp [idxOf, h]
theorem hc45 (g : FuncId) (p : Int → Bool) (sz : Nat) (bf : Nat → List AV) (hq : ∀ k, HC Try.prog [i1] g [(i1, .row true sz 1 bf)] [iv k, .bp i1 0] (.bool (p k)) [(i1, .row true sz 1 bf)]) (l : List Int) :
    HC Try.prog [i0, i1] 45 [(i0, .row true 1 l.length (fun i => [iv (l.getD i 0)])), (i1, .row true sz 1 bf)] [.rs i0 1 0 l.length, .fn g [.bp i1 0]] (iv (idxOf p l)) [(i0, .row true 1 l.length (fun i => [iv (l.getD i 0)])), (i1, .row true sz 1 bf)] := by
  refine HC_intro tok Try.func45 rfl (by decide +kernel) (Nat.le_of_ble_eq_true rfl) ?_
  refine AWp_facts 0 (fun hl => ?_)
  have hl0 : l.length ≤ maxL := hl
  repeat' first | refine AWp_seq ?_ | (refine AWp_reg tok (by rfl) ?_; conv => whnf) | (refine AWp_any tok mix (by rfl) ?_; conv => whnf) | refine AWp_block ?_ | (refine AWp_skip ?_; conv => whnf) | (refine AWp_exit ?_; conv => whnf) | (refine AWp_ret ?_; conv => whnf) | refine AWp_cond rfl (fun hb => ?_) (fun hb => ?_) | (refine @And.intro (underG _ _ _ _) _ ?_ ?_; rotate_left; (conv => whnf); rotate_right) | (refine fun (bn : Bool) (hbn : (0 < _ → bn = _)) => ?_; conv => whnf)
  refine AWp_loop (fun i : Nat => mkS [(0, .rs i0 1 0 l.length), (1, .fn g [.bp i1 0]), (7, iv l.length), (8, iv i)] [(i0, .row true 1 l.length (fun i => [iv (l.getD i 0)])), (i1, .row true sz 1 bf)])
    (fun i => i ≤ l.length ∧ ∀ j, j < i → p (l.getD j 0) = false) (fun i => l.length - i) 0 ⟨Nat.zero_le _, by simp⟩ ?_ ?_
  · refine Weak.list [(i0, .old i0, .row true 1 l.length (fun i => [iv (l.getD i 0)])), (i1, .old i1, .row true sz 1 bf)] rfl (by rfl) ?_ (.old rfl (BLe.refl _) (.old rfl (BLe.refl _) .nil))
    (repeat' first | exact TLes.nil | refine TLes.cons (TLe.eq rfl) ?_ | refine TLes.cons (TLe.int ?_) ?_ | refine TLes.cons (TLe.bool ?_) ?_)
  rintro i ⟨hi, hc⟩
  repeat' first | refine AWp_seq ?_ | (refine AWp_reg tok (by rfl) ?_; conv => whnf) | (refine AWp_any tok mix (by rfl) ?_; conv => whnf) | refine AWp_block ?_ | (refine AWp_skip ?_; conv => whnf) | (refine AWp_exit ?_; conv => whnf) | (refine AWp_ret ?_; conv => whnf) | refine AWp_cond rfl (fun hb => ?_) (fun hb => ?_) | (refine @And.intro (underG _ _ _ _) _ ?_ ?_; rotate_left; (conv => whnf); rotate_right) | (refine fun (bn : Bool) (hbn : (0 < _ → bn = _)) => ?_; conv => whnf)
  · simp only [underG, Bool.not_eq_eq_eq_not, Bool.not_true, Bool.not_false, decide_eq_true_eq, decide_eq_false_iff_not, Int.toNat_natCast, Decidable.not_not, maxL] at *
    exact ⟨by omega, by omega⟩
  · simp only [underG, Bool.not_eq_eq_eq_not, Bool.not_true, Bool.not_false, decide_eq_true_eq, decide_eq_false_iff_not, Int.toNat_natCast, Decidable.not_not, maxL] at *
    omega
  · refine .inr ⟨_, _, _, QH.of (dead := []) [(i1, .old i1, .row true sz 1 bf)] (hq _) rfl (.old rfl (BLe.refl _) .nil) (.cons (.eq rfl) (.cons (.eq rfl) .nil)) [(i1, i1)] rfl (.cons rfl (BLe.refl _) .nil) rfl, ?_⟩
    conv => whnf
    repeat' first | refine AWp_seq ?_ | (refine AWp_reg tok (by rfl) ?_; conv => whnf) | (refine AWp_any tok mix (by rfl) ?_; conv => whnf) | refine AWp_block ?_ | (refine AWp_skip ?_; conv => whnf) | (refine AWp_exit ?_; conv => whnf) | (refine AWp_ret ?_; conv => whnf) | refine AWp_cond rfl (fun hb => ?_) (fun hb => ?_) | (refine @And.intro (underG _ _ _ _) _ ?_ ?_; rotate_left; (conv => whnf); rotate_right) | (refine fun (bn : Bool) (hbn : (0 < _ → bn = _)) => ?_; conv => whnf)
    · simp only [underG, Bool.not_eq_eq_eq_not, Bool.not_true, Bool.not_false, decide_eq_true_eq, decide_eq_false_iff_not, Int.toNat_natCast, Decidable.not_not, maxL] at *
      refine ⟨_, [(i0, .old i0, .row true 1 l.length (fun i => [iv (l.getD i 0)])), (i1, .old i1, .row true sz 1 bf)], rfl, rfl, rfl, rfl, .old rfl (BLe.refl _) (.old rfl (BLe.refl _) .nil), TLe.int ?_⟩
      rename_i hp
      exact (idx_at (by omega) hc (by simpa using hp)).symm
    · simp only [underG, Bool.not_eq_eq_eq_not, Bool.not_true, Bool.not_false, decide_eq_true_eq, decide_eq_false_iff_not, Int.toNat_natCast, Decidable.not_not, maxL] at *
      refine ⟨i + 1, ⟨by omega, fun j hj => ?_⟩, by omega, ?_⟩
      · by_cases e : j = i
        · subst e; rename_i hp; simpa using hp
        · exact hc j (by omega)
      refine Weak.list [(i0, .old i0, .row true 1 l.length (fun i => [iv (l.getD i 0)])), (i1, .old i1, .row true sz 1 bf)] rfl (by rfl) ?_ (.old rfl (BLe.refl _) (.old rfl (BLe.refl _) .nil))
      (repeat' first | exact TLes.nil | refine TLes.cons (TLe.eq rfl) ?_ | refine TLes.cons (TLe.int ?_) ?_ | refine TLes.cons (TLe.bool ?_) ?_)
      rw [wrap64 (by omega) (by omega)]; rfl
  · simp only [underG, Bool.not_eq_eq_eq_not, Bool.not_true, Bool.not_false, decide_eq_true_eq, decide_eq_false_iff_not, Int.toNat_natCast, Decidable.not_not, maxL] at *
    refine ⟨_, [(i0, .old i0, .row true 1 l.length (fun i => [iv (l.getD i 0)])), (i1, .old i1, .row true sz 1 bf)], rfl, rfl, rfl, rfl, .old rfl (BLe.refl _) (.old rfl (BLe.refl _) .nil), TLe.int ?_⟩
    exact (idx_none (fun j hj => hc j (by omega))).symm
end Go.Proofs.Ytmkiahbnfmpieaa
namespace Go.Proofs.Ytmkiahbnfmpieaa
open Go Dv
set_option maxRecDepth 10000
set_option linter.unusedSimpArgs false
abbrev irow (n : Nat) (l : List Int) : ABlock := .row true 1 n (fun x => [iv (l.getD x 0)])
abbrev kept (p : Int → Bool) (l : List Int) : List Int := l.filter fun x => !p x
structure DelI (p : Int → Bool) (l : List Int) (j : Nat) (r : List Int) : Prop where
  hj : j ≤ l.length
  lt : (kept p (l.take j)).length < j
  len : r.length = l.length
  lo : ∀ x, x < (kept p (l.take j)).length → r.getD x 0 = (kept p (l.take j)).getD x 0
  hi : ∀ x, j ≤ x → r.getD x 0 = l.getD x 0
theorem idx_cases (p : Int → Bool) (l : List Int) : (idxOf p l = -1 ∧ kept p l = l) ∨ ∃ i : Nat, idxOf p l = (i : Int) ∧ i < l.length ∧ kept p (l.take (i + 1)) = l.take i := by
  unfold idxOf
  cases h : l.findIdx? p with
  | none =>
    left
    refine ⟨rfl, ?_⟩
    rw [List.findIdx?_eq_none_iff] at h
    rw [List.filter_eq_self]
    intro x hx; simp [h x hx]
  | some i =>
    right
    rw [List.findIdx?_eq_some_iff_getElem] at h
    obtain ⟨hi, h1, h2⟩ := h
    refine ⟨i, rfl, hi, ?_⟩
    rw [List.take_succ_eq_append_getElem hi]
    simp only [kept, List.filter_append]
    have e1 : (l.take i).filter (fun x => !p x) = l.take i := by
      rw [List.filter_eq_self]
      intro x hx
      obtain ⟨j, hj, rfl⟩ := List.getElem_of_mem hx
      simp at hj
      have := h2 j (by omega)
      simpa using this
    rw [e1]; simp [h1]
theorem DelI.init (p : Int → Bool) (l : List Int) {i : Nat} (hi : i < l.length) (hk : kept p (l.take (i + 1)) = l.take i) : DelI p l (i + 1) l := by
  refine ⟨hi, by rw [hk]; simp; omega, rfl, fun x hx => ?_, fun _ _ => rfl⟩
  rw [hk] at hx ⊢
  simp at hx
  have hx' : x < i := by omega
  simp [List.getD_eq_getElem?_getD, List.getElem?_take, hx']
theorem take_getD {l : List Int} {j : Nat} (h : j < l.length) : l.take (j + 1) = l.take j ++ [l.getD j 0] := by
  rw [List.take_succ_eq_append_getElem h]; simp [List.getD_eq_getElem?_getD, h]
theorem kept_keep {p : Int → Bool} {l : List Int} {j : Nat} (h : j < l.length) (hp : p (l.getD j 0) = false) : kept p (l.take (j + 1)) = kept p (l.take j) ++ [l.getD j 0] := by
  rw [take_getD h]; simp only [kept, List.filter_append, List.filter_cons, hp]; rfl
theorem kept_drop {p : Int → Bool} {l : List Int} {j : Nat} (h : j < l.length) (hp : p (l.getD j 0) = true) : kept p (l.take (j + 1)) = kept p (l.take j) := by
  rw [take_getD h]; simp only [kept, List.filter_append, List.filter_cons, hp]; simp
theorem DelI.keep {p : Int → Bool} {l r : List Int} {j : Nat} (I : DelI p l j r) (h : j < l.length) (hp : p (l.getD j 0) = false) : DelI p l (j + 1) (r.set (kept p (l.take j)).length (l.getD j 0)) := by
  have hlt := I.lt
  have hlen := I.len
  refine ⟨h, by rw [kept_keep h hp]; simp; omega, by simp [I.len], fun x hx => ?_, fun x hx => ?_⟩
  · rw [kept_keep h hp] at hx ⊢
    simp at hx
    rcases Nat.lt_or_ge x (kept p (l.take j)).length with h1 | h1
    · have := I.lo x h1
      rw [List.getD_eq_getElem?_getD, List.getElem?_set_ne (by omega), ← List.getD_eq_getElem?_getD, this]
      simp [List.getD_eq_getElem?_getD, List.getElem?_append_left h1]
    · have e : x = (kept p (l.take j)).length := by omega
      rw [e, List.getD_eq_getElem?_getD, List.getElem?_set_self (by omega), List.getD_eq_getElem?_getD (l := kept p (l.take j) ++ _), List.getElem?_append_right (Nat.le_refl _)]
      simp
  · rw [List.getD_eq_getElem?_getD, List.getElem?_set_ne (by omega), ← List.getD_eq_getElem?_getD]
    exact I.hi x (by omega)
theorem DelI.drop {p : Int → Bool} {l r : List Int} {j : Nat} (I : DelI p l j r) (h : j < l.length) (hp : p (l.getD j 0) = true) : DelI p l (j + 1) r := by
  have hlt := I.lt
  refine ⟨h, by rw [kept_drop h hp]; omega, I.len, fun x hx => ?_, fun x hx => I.hi x (by omega)⟩
  rw [kept_drop h hp] at hx ⊢; exact I.lo x hx
theorem set_row {r : List Int} {k n : Nat} {v : Int} (hk : k < r.length) (x : Nat) : updR (fun x => [iv (r.getD x 0)]) (0 + k) [iv v] x = [iv ((r.set k v).getD x 0)] := by
  rw [Nat.zero_add]
  unfold updR
  cases e : Nat.beq k x with
  | true => have := Nat.eq_of_beq_eq_true e; subst this; simp [List.getD_eq_getElem?_getD, hk]
  | false =>
    have : k ≠ x := fun e' => by subst e'; simp at e
    simp [List.getD_eq_getElem?_getD, List.getElem?_set_ne this]
theorem hc35 (g : FuncId) (p : Int → Bool) (sz : Nat) (bf : Nat → List AV) (hq : ∀ k, HC Try.prog [i1] g [(i1, .row true sz 1 bf)] [iv k, .bp i1 0] (.bool (p k)) [(i1, .row true sz 1 bf)]) (l : List Int) :
    HC Try.prog [i0, i1] 35 [(i0, irow l.length l), (i1, .row true sz 1 bf)] [.rs i0 1 0 l.length, .fn g [.bp i1 0]] (.rs i0 1 0 (kept p l).length) [(i0, irow l.length (kept p l)), (i1, .row true sz 1 bf)] := by
  refine HC_intro tok Try.func35 rfl (by decide +kernel) (Nat.le_of_ble_eq_true rfl) ?_
  refine AWp_facts 0 (fun hl => ?_)
  have hl0 : l.length ≤ maxL := hl
  repeat' first | refine AWp_seq ?_ | (refine AWp_reg tok (by rfl) ?_; conv => whnf) | (refine AWp_any tok mix (by rfl) ?_; conv => whnf) | refine AWp_block ?_ | (refine AWp_skip ?_; conv => whnf) | (refine AWp_exit ?_; conv => whnf) | (refine AWp_ret ?_; conv => whnf) | refine AWp_cond rfl (fun hb => ?_) (fun hb => ?_) | (refine @And.intro (underG _ _ _ _) _ ?_ ?_; rotate_left; (conv => whnf); rotate_right) | (refine fun (bn : Bool) (hbn : (0 < _ → bn = _)) => ?_; conv => whnf)
  refine .inr ⟨_, _, _, QH.of (dead := []) [(i0, .old i0, irow l.length l), (i1, .old i1, .row true sz 1 bf)] (hc45 g p sz bf hq l) rfl (.old rfl (BLe.refl _) (.old rfl (BLe.refl _) .nil)) (.cons (.eq rfl) (.cons (.eq rfl) .nil)) [(i0, i0), (i1, i1)] rfl (.cons rfl (BLe.refl _) (.cons rfl (BLe.refl _) .nil)) rfl, ?_⟩
  conv => whnf
  repeat' first | refine AWp_seq ?_ | (refine AWp_reg tok (by rfl) ?_; conv => whnf) | (refine AWp_any tok mix (by rfl) ?_; conv => whnf) | refine AWp_block ?_ | (refine AWp_skip ?_; conv => whnf) | (refine AWp_exit ?_; conv => whnf) | (refine AWp_ret ?_; conv => whnf) | refine AWp_cond rfl (fun hb => ?_) (fun hb => ?_) | (refine @And.intro (underG _ _ _ _) _ ?_ ?_; rotate_left; (conv => whnf); rotate_right) | (refine fun (bn : Bool) (hbn : (0 < _ → bn = _)) => ?_; conv => whnf)
  · simp only [underG, Bool.not_eq_eq_eq_not, Bool.not_true, Bool.not_false, decide_eq_true_eq, decide_eq_false_iff_not, Int.toNat_natCast, Decidable.not_not, maxL] at *
    have hk : kept p l = l := by
      rcases idx_cases p l with ⟨_, h⟩ | ⟨i, h, _⟩
      · exact h
      · omega
    rw [hk]
    exact ⟨_, [(i0, .old i0, irow l.length l), (i1, .old i1, .row true sz 1 bf)], rfl, rfl, rfl, rfl, .old rfl (BLe.refl _) (.old rfl (BLe.refl _) .nil), .eq rfl⟩
  obtain ⟨i, hi1, hi2, hi3⟩ : ∃ i : Nat, idxOf p l = (i : Int) ∧ i < l.length ∧ kept p (l.take (i + 1)) = l.take i := by
    simp only [underG, Bool.not_eq_eq_eq_not, Bool.not_true, Bool.not_false, decide_eq_true_eq, decide_eq_false_iff_not, Int.toNat_natCast, Decidable.not_not, maxL] at *
    rcases idx_cases p l with ⟨h, _⟩ | h
    · exact (hb h).elim
    · exact h
  refine AWp_loop (fun s : Nat × List Int => mkS [(0, .rs i0 1 0 l.length), (1, .fn g [.bp i1 0]), (5, iv (kept p (l.take s.1)).length), (6, iv s.1)] [(i0, irow l.length s.2), (i1, .row true sz 1 bf)])
    (fun s => DelI p l s.1 s.2) (fun s => l.length - s.1) (i + 1, l) (DelI.init p l hi2 hi3) ?_ ?_
  · refine Weak.list [(i0, .old i0, irow l.length l), (i1, .old i1, .row true sz 1 bf)] rfl (by rfl) ?_ (.old rfl (BLe.refl _) (.old rfl (BLe.refl _) .nil))
    (repeat' first | exact TLes.nil | refine TLes.cons (TLe.eq rfl) ?_ | refine TLes.cons (TLe.int ?_) ?_ | refine TLes.cons (TLe.bool ?_) ?_)
    · simp only [hi3, hi1]; simp; omega
    · simp only [underG, Bool.not_eq_eq_eq_not, Bool.not_true, Bool.not_false, decide_eq_true_eq, decide_eq_false_iff_not, Int.toNat_natCast, Decidable.not_not, maxL] at *
      rw [hi1, wrap64 (by omega) (by omega)]; rfl
  rintro ⟨j, r⟩ hI
  replace hI : DelI p l j r := hI
  have hlt := hI.lt
  have hlen := hI.len
  have hjj := hI.hj
  repeat' first | refine AWp_seq ?_ | (refine AWp_reg tok (by rfl) ?_; conv => whnf) | (refine AWp_any tok mix (by rfl) ?_; conv => whnf) | refine AWp_block ?_ | (refine AWp_skip ?_; conv => whnf) | (refine AWp_exit ?_; conv => whnf) | (refine AWp_ret ?_; conv => whnf) | refine AWp_cond rfl (fun hb => ?_) (fun hb => ?_) | (refine @And.intro (underG _ _ _ _) _ ?_ ?_; rotate_left; (conv => whnf); rotate_right) | (refine fun (bn : Bool) (hbn : (0 < _ → bn = _)) => ?_; conv => whnf)
  · simp only [underG, Bool.not_eq_eq_eq_not, Bool.not_true, Bool.not_false, decide_eq_true_eq, decide_eq_false_iff_not, Int.toNat_natCast, Decidable.not_not, maxL] at *
    exact ⟨by omega, by omega⟩
  · simp only [underG, Bool.not_eq_eq_eq_not, Bool.not_true, Bool.not_false, decide_eq_true_eq, decide_eq_false_iff_not, Int.toNat_natCast, Decidable.not_not, maxL] at *
    omega
  · refine .inr ⟨_, _, _, QH.of (dead := []) [(i1, .old i1, .row true sz 1 bf)] (hq _) rfl (.old rfl (BLe.refl _) .nil) (.cons (.eq rfl) (.cons (.eq rfl) .nil)) [(i1, i1)] rfl (.cons rfl (BLe.refl _) .nil) rfl, ?_⟩
    conv => whnf
    repeat' first | refine AWp_seq ?_ | (refine AWp_reg tok (by rfl) ?_; conv => whnf) | (refine AWp_any tok mix (by rfl) ?_; conv => whnf) | refine AWp_block ?_ | (refine AWp_skip ?_; conv => whnf) | (refine AWp_exit ?_; conv => whnf) | (refine AWp_ret ?_; conv => whnf) | refine AWp_cond rfl (fun hb => ?_) (fun hb => ?_) | (refine @And.intro (underG _ _ _ _) _ ?_ ?_; rotate_left; (conv => whnf); rotate_right) | (refine fun (bn : Bool) (hbn : (0 < _ → bn = _)) => ?_; conv => whnf)
    all_goals simp only [underG, Bool.not_eq_eq_eq_not, Bool.not_true, Bool.not_false, decide_eq_true_eq, decide_eq_false_iff_not, Int.toNat_natCast, Decidable.not_not, maxL] at *
    · exact ⟨by omega, by omega⟩
    · omega
    · have hj : j < l.length := by omega
      have e1 : r.getD j 0 = l.getD j 0 := hI.hi j (Nat.le_refl _)
      rw [Nat.zero_add, e1] at hb
      refine ⟨(j + 1, r.set (kept p (l.take j)).length (l.getD j 0)), hI.keep hj hb, by simp only; omega, ?_⟩
      refine Weak.list [(i0, .old i0, irow l.length (r.set (kept p (l.take j)).length (l.getD j 0))), (i1, .old i1, .row true sz 1 bf)] rfl (by rfl) ?_ (.old rfl (BLe.row rfl (fun x hx => ?_)) (.old rfl (BLe.refl _) .nil))
      · (repeat' first | exact TLes.nil | refine TLes.cons (TLe.eq rfl) ?_ | refine TLes.cons (TLe.int ?_) ?_ | refine TLes.cons (TLe.bool ?_) ?_)
        · simp only [kept_keep hj hb]
          rw [wrap64 (by omega) (by omega)]; simp
        · rw [wrap64 (by omega) (by omega)]; rfl
      · rw [← set_row (n := 0) (by omega), ← e1]; simp only [Nat.zero_add]; rfl
    · have hj : j < l.length := by omega
      have e1 : r.getD j 0 = l.getD j 0 := hI.hi j (Nat.le_refl _)
      rw [Nat.zero_add, e1] at hb
      refine ⟨(j + 1, r), hI.drop hj hb, by simp only; omega, ?_⟩
      refine Weak.list [(i0, .old i0, irow l.length r), (i1, .old i1, .row true sz 1 bf)] rfl (by rfl) ?_ (.old rfl (BLe.refl _) (.old rfl (BLe.refl _) .nil))
      (repeat' first | exact TLes.nil | refine TLes.cons (TLe.eq rfl) ?_ | refine TLes.cons (TLe.int ?_) ?_ | refine TLes.cons (TLe.bool ?_) ?_)
      · simp only [kept_drop hj hb]
      · rw [wrap64 (by omega) (by omega)]; rfl
  all_goals simp only [underG, Bool.not_eq_eq_eq_not, Bool.not_true, Bool.not_false, decide_eq_true_eq, decide_eq_false_iff_not, Int.toNat_natCast, Decidable.not_not, maxL] at *
  · exact ⟨by omega, by omega, by omega⟩
  · omega
  · exact ⟨by omega, by omega, by omega⟩
  · have ej : l.take j = l := List.take_of_length_le (by omega)
    have hlo := hI.lo
    simp only [ej] at hlo hlt ⊢
    refine ⟨_, [(i0, .old i0, irow l.length (kept p l)), (i1, .old i1, .row true sz 1 bf)], rfl, rfl, rfl, rfl, .old rfl (BLe.row rfl (fun x hx => ?_)) (.old rfl (BLe.refl _) .nil), .eq rfl⟩
    show (bif inRow (0 + (kept p l).length) (l.length - (kept p l).length) x then [iv 0] else [iv (r.getD x 0)]) = [iv ((kept p l).getD x 0)]
    cases e : inRow (0 + (kept p l).length) (l.length - (kept p l).length) x with
    | true =>
      have := inRow_iff.1 e
      simp only [cond_true, List.getD_eq_getElem?_getD]
      rw [List.getElem?_eq_none (by omega)]; rfl
    | false =>
      have : x < (kept p l).length := by
        rcases Nat.lt_or_ge x (kept p l).length with h | h
        · exact h
        · rw [inRow_iff.2 ⟨by omega, by omega⟩] at e; cases e
      simp only [cond_false, hlo x this]
end Go.Proofs.Ytmkiahbnfmpieaa
namespace Go.Proofs.Ytmkiahbnfmpieaa
open Go Dv
set_option maxRecDepth 10000
set_option linter.unusedSimpArgs false
theorem _root_.Dv.TLe.rs {R : Dv.Rows} {i j : Dv.Id} {sz st n m : Nat} (hr : R.ren i = some j) (hn : n = m) : TLe R (.rs i sz st n) (.rs j sz st m) := by
  subst hn; refine .eq ?_; simp only [mapAV, hr]
def nxt (b : Block) : List Int := if b.fin.kind = 4 then goals b ++ [b.fin.pad] else goals b
def next (F : Func) (n : Int) : List Int := if isIn F n = true then kept (fun k => !isIn F k) (nxt (F.blocks.getD n.toNat default)) else []
theorem goals_len (b : Block) : (goals b).length ≤ 2 := by unfold goals; split <;> (try split) <;> simp
theorem fo17 (F : Func) (n : Int) : FO Try.prog 17 [.agg (encFunc F), iv n] 1 (next F n).length (fun i => [iv ((next F n).getD i 0)]) := by
  refine FO_intro tok Try.func17 rfl (by decide +kernel) (Nat.le_of_ble_eq_true rfl) ?_
  repeat' first | refine AWp_seq ?_ | (refine AWp_reg tok (by rfl) ?_; conv => whnf) | (refine AWp_any tok mix (by rfl) ?_; conv => whnf) | refine AWp_block ?_ | (refine AWp_skip ?_; conv => whnf) | (refine AWp_exit ?_; conv => whnf) | (refine AWp_ret ?_; conv => whnf) | refine AWp_cond rfl (fun hb => ?_) (fun hb => ?_) | (refine @And.intro (underG _ _ _ _) _ ?_ ?_; rotate_left; (conv => whnf); rotate_right) | (refine fun (bn : Bool) (hbn : (0 < _ → bn = _)) => ?_; conv => whnf)
  refine .inl ⟨_, _, _, QC.fc (fc32 F n) rfl, ?_⟩
  conv => whnf
  repeat' first | refine AWp_seq ?_ | (refine AWp_reg tok (by rfl) ?_; conv => whnf) | (refine AWp_any tok mix (by rfl) ?_; conv => whnf) | refine AWp_block ?_ | (refine AWp_skip ?_; conv => whnf) | (refine AWp_exit ?_; conv => whnf) | (refine AWp_ret ?_; conv => whnf) | refine AWp_cond rfl (fun hb => ?_) (fun hb => ?_) | (refine @And.intro (underG _ _ _ _) _ ?_ ?_; rotate_left; (conv => whnf); rotate_right) | (refine fun (bn : Bool) (hbn : (0 < _ → bn = _)) => ?_; conv => whnf)
  · refine ⟨_, rfl, RelO.nsl' ?_⟩
    simp only [next]
    rw [if_neg]; rfl
    intro h
    rw [show (bif decide (0 ≤ n) then decide (n < (F.blocks.length : Int)) else false) = isIn F n from rfl, h] at hb
    cases hb
  · simp only [underG, Bool.not_eq_eq_eq_not, Bool.not_true, Bool.not_false, decide_eq_true_eq, decide_eq_false_iff_not, Int.toNat_natCast, Decidable.not_not, maxL] at *
    have h0 : isIn F n = true := hb
    cases h1 : decide (0 ≤ n) with
    | false => rw [h1] at hb; cases hb
    | true =>
      rw [h1] at hb
      simp only [cond_true, decide_eq_true_eq] at h1 hb
      exact ⟨h1, hb⟩
  refine .inl ⟨_, _, _, QC.fc (fc34 _) rfl, ?_⟩
  conv => whnf
  repeat' first | refine AWp_seq ?_ | (refine AWp_reg tok (by rfl) ?_; conv => whnf) | (refine AWp_any tok mix (by rfl) ?_; conv => whnf) | refine AWp_block ?_ | (refine AWp_skip ?_; conv => whnf) | (refine AWp_exit ?_; conv => whnf) | (refine AWp_ret ?_; conv => whnf) | refine AWp_cond rfl (fun hb => ?_) (fun hb => ?_) | (refine @And.intro (underG _ _ _ _) _ ?_ ?_; rotate_left; (conv => whnf); rotate_right) | (refine fun (bn : Bool) (hbn : (0 < _ → bn = _)) => ?_; conv => whnf)
  refine .inl ⟨_, _, _, QC.fo (rd := []) (fo33 _) (.cons (.imm rfl) .nil) (.inl rfl) rfl, ?_⟩
  conv => whnf
  have hin : isIn F n = true := by
    cases h : isIn F n with
    | true => rfl
    | false =>
      rw [show (bif decide (0 ≤ n) then decide (n < (F.blocks.length : Int)) else false) = isIn F n from rfl, h] at hb
      cases hb
  generalize hB : F.blocks.getD n.toNat default = B
  have hg := goals_len B
  repeat' first | refine AWp_seq ?_ | (refine AWp_reg tok (by rfl) ?_; conv => whnf) | (refine AWp_any tok mix (by rfl) ?_; conv => whnf) | refine AWp_block ?_ | (refine AWp_skip ?_; conv => whnf) | (refine AWp_exit ?_; conv => whnf) | (refine AWp_ret ?_; conv => whnf) | refine AWp_cond rfl (fun hb => ?_) (fun hb => ?_) | (refine @And.intro (underG _ _ _ _) _ ?_ ?_; rotate_left; (conv => whnf); rotate_right) | (refine fun (bn : Bool) (hbn : (0 < _ → bn = _)) => ?_; conv => whnf)
  · simp only [underG, Bool.not_eq_eq_eq_not, Bool.not_true, Bool.not_false, decide_eq_true_eq, decide_eq_false_iff_not, Int.toNat_natCast, Decidable.not_not, maxL] at *
    exact ⟨(show 0 + 1 ≤ 1 by decide), Nat.le_refl _, by omega⟩
  · have e : nxt B = goals B ++ [B.fin.pad] := by
      simp only [underG, Bool.not_eq_eq_eq_not, Bool.not_true, Bool.not_false, decide_eq_true_eq, decide_eq_false_iff_not, Int.toNat_natCast, Decidable.not_not, maxL] at *
      simp [nxt, hb]
    refine .inr ⟨_, _, _, QH.of (dead := []) [(i0, .old (28, 0, 0), irow (nxt B).length (nxt B)), (i1, .old (2, 0, 0), fbox F)] (hc35 36 (fun k => !isIn F k) 3 _ (hc36 F) (nxt B)) rfl
      (.old rfl (BLe.row (by rw [e]; simp) (fun x hx => ?_)) (.old rfl (BLe.refl _) .nil)) (.cons (TLe.rs rfl (by rw [e]; simp)) (.cons (.eq rfl) .nil)) [(i0, (28, 0, 0)), (i1, (2, 0, 0))] rfl (.cons rfl (BLe.refl _) (.cons rfl (BLe.refl _) .nil)) rfl, ?_⟩
    · rw [e]
      show appR (goals B).length (fun i => [iv ((goals B).getD i 0)]) (fun i => rowOf 1 [iv B.fin.pad] (0 + i)) x = _
      have hx1 : x < (goals B).length + 1 := by simpa using hx
      unfold appR
      cases hc : Nat.blt x (goals B).length with
      | true =>
        rw [Nat.blt_eq] at hc
        simp only [cond_true, List.getD_eq_getElem?_getD, List.getElem?_append_left hc]
      | false =>
        have h1 : x = (goals B).length := by
          rcases Nat.lt_or_ge x (goals B).length with h | h
          · rw [← Nat.blt_eq] at h; rw [h] at hc; cases hc
          · omega
        subst h1
        simp only [cond_false, Nat.sub_self, List.getD_eq_getElem?_getD, List.getElem?_append_right (Nat.le_refl _)]
        rfl
    conv => whnf
    repeat' first | refine AWp_seq ?_ | (refine AWp_reg tok (by rfl) ?_; conv => whnf) | (refine AWp_any tok mix (by rfl) ?_; conv => whnf) | refine AWp_block ?_ | (refine AWp_skip ?_; conv => whnf) | (refine AWp_exit ?_; conv => whnf) | (refine AWp_ret ?_; conv => whnf) | refine AWp_cond rfl (fun hb => ?_) (fun hb => ?_) | (refine @And.intro (underG _ _ _ _) _ ?_ ?_; rotate_left; (conv => whnf); rotate_right) | (refine fun (bn : Bool) (hbn : (0 < _ → bn = _)) => ?_; conv => whnf)
    have e2 : next F n = kept (fun k => !isIn F k) (nxt B) := by simp only [next, hin, if_true, hB]
    rw [e2]
    exact ⟨_, rfl, RelO.rs rfl (List.length_filter_le _ _) rfl (fun _ _ => rfl)⟩
  · have e : nxt B = goals B := by
      simp only [underG, Bool.not_eq_eq_eq_not, Bool.not_true, Bool.not_false, decide_eq_true_eq, decide_eq_false_iff_not, Int.toNat_natCast, Decidable.not_not, maxL] at *
      simp [nxt, hb]
    refine .inr ⟨_, _, _, QH.of (dead := []) [(i0, .old (18, 0, 0), irow (nxt B).length (nxt B)), (i1, .old (2, 0, 0), fbox F)] (hc35 36 (fun k => !isIn F k) 3 _ (hc36 F) (nxt B)) rfl
      (.old rfl (BLe.row (by rw [e]) (fun x hx => by rw [e]; rfl)) (.old rfl (BLe.refl _) .nil)) (.cons (TLe.rs rfl (by rw [e])) (.cons (.eq rfl) .nil)) [(i0, (18, 0, 0)), (i1, (2, 0, 0))] rfl (.cons rfl (BLe.refl _) (.cons rfl (BLe.refl _) .nil)) rfl, ?_⟩
    conv => whnf
    repeat' first | refine AWp_seq ?_ | (refine AWp_reg tok (by rfl) ?_; conv => whnf) | (refine AWp_any tok mix (by rfl) ?_; conv => whnf) | refine AWp_block ?_ | (refine AWp_skip ?_; conv => whnf) | (refine AWp_exit ?_; conv => whnf) | (refine AWp_ret ?_; conv => whnf) | refine AWp_cond rfl (fun hb => ?_) (fun hb => ?_) | (refine @And.intro (underG _ _ _ _) _ ?_ ?_; rotate_left; (conv => whnf); rotate_right) | (refine fun (bn : Bool) (hbn : (0 < _ → bn = _)) => ?_; conv => whnf)
    have e2 : next F n = kept (fun k => !isIn F k) (nxt B) := by simp only [next, hin, if_true, hB]
    rw [e2]
    exact ⟨_, rfl, RelO.rs rfl (List.length_filter_le _ _) rfl (fun _ _ => rfl)⟩
end Go.Proofs.Ytmkiahbnfmpieaa
namespace Go.Proofs.Ytmkiahbnfmpieaa
open Go Dv
set_option maxRecDepth 10000
set_option linter.unusedSimpArgs false
abbrev i2 : Dv.Id := (2, 0, 0)
abbrev brow (n : Nat) (l : List Bool) : ABlock := .row true 1 n (fun x => [.bool (l.getD x false)])
def wbox (F : Func) (m : Nat) : ABlock := .row false 5 1 (fun _ => [iv F.params, iv F.regs, blockss F.blocks, .rs i1 1 0 F.blocks.length, .rs i2 1 0 m])
abbrev walkH (F : Func) (s : List Bool × List Int) : List (Dv.Id × ABlock) := [(i0, wbox F s.2.length), (i1, brow F.blocks.length s.1), (i2, irow s.2.length s.2)]
def into (F : Func) : Nat → Int → List Bool × List Int → List Bool × List Int
  | 0, _, s => s
  | fuel + 1, n, (seen, left) => if seen.getD n.toNat false = true then (seen, left) else
      let s1 := (next F n).foldl (fun s k => into F fuel k s) (seen.set n.toNat true, left)
      (s1.1, s1.2 ++ [n])
theorem next_in {F : Func} {n k : Int} (h : k ∈ next F n) : 0 ≤ k ∧ k < F.blocks.length := by
  unfold next at h
  split at h
  · simp [kept] at h
    have h2 : isIn F k = true := by simpa [isIn] using h.2
    unfold isIn at h2
    cases h0 : decide (0 ≤ k) with
    | true => rw [h0] at h2; exact ⟨of_decide_eq_true h0, of_decide_eq_true h2⟩
    | false => rw [h0] at h2; cases h2
  · simp at h
abbrev Keeps (F : Func) (s s' : List Bool × List Int) : Prop := s'.1.length = F.blocks.length ∧ s'.2.length + s'.1.count false ≤ s.2.length + s.1.count false ∧ s'.1.count false ≤ s.1.count false
theorem fold_keeps {F : Func} {fuel : Nat} (ih : ∀ (n : Int) (s : List Bool × List Int), s.1.length = F.blocks.length → 0 ≤ n → n < F.blocks.length → Keeps F s (into F fuel n s)) :
    ∀ (l : List Int) (s : List Bool × List Int), s.1.length = F.blocks.length → (∀ k ∈ l, 0 ≤ k ∧ k < F.blocks.length) → Keeps F s (l.foldl (fun s k => into F fuel k s) s)
  | [], s, h, _ => ⟨h, Nat.le_refl _, Nat.le_refl _⟩
  | k :: l, s, h, hk => by
      have h1 := ih k s h (hk k (by simp)).1 (hk k (by simp)).2
      have h2 := fold_keeps ih l (into F fuel k s) h1.1 (fun x hx => hk x (by simp [hx]))
      simp only [List.foldl_cons]
      exact ⟨h2.1, by omega, by omega⟩
theorem set_count {l : List Bool} {i : Nat} (hi : i < l.length) (h : l.getD i false = false) : (l.set i true).count false + 1 = l.count false := by
  have e : l[i] = false := by simpa [List.getD_eq_getElem?_getD, hi] using h
  have := List.count_set (a := true) (b := false) (l := l) hi
  rw [this, e]
  simp
  have : 0 < l.count false := List.count_pos_iff.2 (by rw [← e]; exact List.getElem_mem hi)
  omega
theorem into_keeps (F : Func) : ∀ (fuel : Nat) (n : Int) (s : List Bool × List Int), s.1.length = F.blocks.length → 0 ≤ n → n < F.blocks.length → Keeps F s (into F fuel n s) := by
  intro fuel
  induction fuel with
  | zero => intro n s h _ _; exact ⟨h, Nat.le_refl _, Nat.le_refl _⟩
  | succ fuel ih =>
    rintro n ⟨seen, left⟩ hlen h0 h1
    simp only at hlen
    simp only [into]
    split
    · exact ⟨hlen, Nat.le_refl _, Nat.le_refl _⟩
    · rename_i hs
      have h := fold_keeps ih (next F n) (seen.set n.toNat true, left) (by simpa using hlen) (fun x hx => next_in hx)
      have hc := set_count (l := seen) (i := n.toNat) (by omega) (by simpa using hs)
      dsimp only [Keeps] at h
      refine ⟨h.1, ?_, ?_⟩
      · simp only [List.length_append, List.length_cons, List.length_nil]; omega
      · dsimp only; omega
theorem set_brow {r : List Bool} {k : Nat} {v : Bool} (hk : k < r.length) (x : Nat) : updR (fun x => [AV.bool (r.getD x false)]) (0 + k) [.bool v] x = [.bool ((r.set k v).getD x false)] := by
  rw [Nat.zero_add]
  unfold updR
  cases e : Nat.beq k x with
  | true => have := Nat.eq_of_beq_eq_true e; subst this; simp [List.getD_eq_getElem?_getD, hk]
  | false =>
    have : k ≠ x := fun e' => by subst e'; simp at e
    simp [List.getD_eq_getElem?_getD, List.getElem?_set_ne this]
theorem app_row {l : List Int} {v : Int} {x : Nat} (hx : x < l.length + 1) : appR l.length (fun i => [iv (l.getD i 0)]) (fun i => rowOf 1 [iv v] (0 + i)) x = [iv ((l ++ [v]).getD x 0)] := by
  unfold appR
  cases hc : Nat.blt x l.length with
  | true =>
    rw [Nat.blt_eq] at hc
    simp only [cond_true, List.getD_eq_getElem?_getD, List.getElem?_append_left hc]
  | false =>
    have h1 : x = l.length := by
      rcases Nat.lt_or_ge x l.length with h | h
      · rw [← Nat.blt_eq] at h; rw [h] at hc; cases hc
      · omega
    subst h1
    simp only [cond_false, Nat.sub_self, List.getD_eq_getElem?_getD, List.getElem?_append_right (Nat.le_refl _)]
    rfl
theorem hc47 (F : Func) (fuel : Nat) : ∀ (n : Int) (s : List Bool × List Int), s.1.length = F.blocks.length → 0 ≤ n → n < F.blocks.length → s.1.count false ≤ fuel → s.2.length + s.1.count false ≤ maxL →
    HC Try.prog [i0, i1] 47 (walkH F s) [.bp i0 0, iv n] (.tup []) (walkH F (into F (fuel + 1) n s)) := by
  induction fuel using Nat.strongRecOn with
  | ind fuel ih =>
  rintro n ⟨seen, left⟩ hlen hn0 hn1 hfu hle
  simp only at hlen hfu hle
  obtain ⟨k, rfl⟩ : ∃ k : Nat, n = k := ⟨n.toNat, by omega⟩
  have hk : k < seen.length := by omega
  refine HC_intro tok Try.func47 rfl (by decide +kernel) (Nat.le_of_ble_eq_true rfl) ?_
  repeat' first | refine AWp_seq ?_ | (refine AWp_reg tok (by rfl) ?_; conv => whnf) | (refine AWp_any tok mix (by rfl) ?_; conv => whnf) | refine AWp_block ?_ | (refine AWp_skip ?_; conv => whnf) | (refine AWp_exit ?_; conv => whnf) | (refine AWp_ret ?_; conv => whnf) | refine AWp_cond rfl (fun hb => ?_) (fun hb => ?_) | (refine @And.intro (underG _ _ _ _) _ ?_ ?_; rotate_left; (conv => whnf); rotate_right) | (refine fun (bn : Bool) (hbn : (0 < _ → bn = _)) => ?_; conv => whnf)
  · simp only [underG, Bool.not_eq_eq_eq_not, Bool.not_true, Bool.not_false, decide_eq_true_eq, decide_eq_false_iff_not, Int.toNat_natCast, Decidable.not_not, maxL] at *
    exact ⟨by omega, by omega⟩
  · simp only [underG, Bool.not_eq_eq_eq_not, Bool.not_true, Bool.not_false, decide_eq_true_eq, decide_eq_false_iff_not, Int.toNat_natCast, Decidable.not_not, maxL] at *
    omega
  · simp only [underG, Bool.not_eq_eq_eq_not, Bool.not_true, Bool.not_false, decide_eq_true_eq, decide_eq_false_iff_not, Int.toNat_natCast, Decidable.not_not, maxL] at *
    have hb' : seen.getD k false = true := by simpa using hb
    have e : into F (fuel + 1) (k : Int) (seen, left) = (seen, left) := by simp only [into, Int.toNat_natCast, hb', if_true]
    rw [e]
    exact ⟨_, [(i0, .old i0, wbox F left.length), (i1, .old i1, brow F.blocks.length seen), (i2, .old i2, irow left.length left)], rfl, rfl, rfl, rfl, .old rfl (BLe.refl _) (.old rfl (BLe.refl _) (.old rfl (BLe.refl _) .nil)), .eq rfl⟩
  · simp only [underG, Bool.not_eq_eq_eq_not, Bool.not_true, Bool.not_false, decide_eq_true_eq, decide_eq_false_iff_not, Int.toNat_natCast, Decidable.not_not, maxL] at *
    exact ⟨by omega, by omega⟩
  · simp only [underG, Bool.not_eq_eq_eq_not, Bool.not_true, Bool.not_false, decide_eq_true_eq, decide_eq_false_iff_not, Int.toNat_natCast, Decidable.not_not, maxL] at *
    omega
  have hb' : seen.getD k false = false := by
    simp only [underG, Bool.not_eq_eq_eq_not, Bool.not_true, Bool.not_false, decide_eq_true_eq, decide_eq_false_iff_not, Int.toNat_natCast, Decidable.not_not, maxL] at *
    simpa using hb
  have hcnt := set_count hk hb'
  obtain ⟨f, rfl⟩ : ∃ f, fuel = f + 1 := ⟨fuel - 1, by omega⟩
  refine .inl ⟨_, _, _, QC.fo (rd := []) (fo17 F k) (.cons (.imm rfl) (.cons (.imm rfl) .nil)) (.inl rfl) rfl, ?_⟩
  conv => whnf
  repeat' first | refine AWp_seq ?_ | (refine AWp_reg tok (by rfl) ?_; conv => whnf) | (refine AWp_any tok mix (by rfl) ?_; conv => whnf) | refine AWp_block ?_ | (refine AWp_skip ?_; conv => whnf) | (refine AWp_exit ?_; conv => whnf) | (refine AWp_ret ?_; conv => whnf) | refine AWp_cond rfl (fun hb => ?_) (fun hb => ?_) | (refine @And.intro (underG _ _ _ _) _ ?_ ?_; rotate_left; (conv => whnf); rotate_right) | (refine fun (bn : Bool) (hbn : (0 < _ → bn = _)) => ?_; conv => whnf)
  refine AWp_facts 24 (fun hm => ?_)
  have hNl : (next F (k : Int)).length ≤ maxL := hm
  clear hm
  revert hNl
  generalize hN : next F (k : Int) = N
  intro hNl
  let st : Nat → List Bool × List Int := fun i => (N.take i).foldl (fun s k => into F (f + 1) k s) (seen.set k true, left)
  refine AWp_loop (fun i : Nat => mkS [(0, .bp i0 0), (1, iv k), (24, .rs (24, 0, 0) 1 0 N.length), (25, iv N.length), (26, iv i)] (walkH F (st i) ++ [((24, 0, 0), irow N.length N)]))
    (fun i => i ≤ N.length) (fun i => N.length - i) 0 (Nat.zero_le _) ?_ ?_
  · refine Weak.list [(i0, .old i0, wbox F left.length), (i1, .old i1, brow F.blocks.length (seen.set k true)), (i2, .old i2, irow left.length left), ((24, 0, 0), .old (24, 0, 0), irow N.length N)] rfl (by rfl) ?_ ?_
    · (repeat' first | exact TLes.nil | refine TLes.cons (TLe.eq rfl) ?_ | refine TLes.cons (TLe.int ?_) ?_ | refine TLes.cons (TLe.bool ?_) ?_)
    · refine .old rfl (BLe.refl _) (.old rfl (BLe.row rfl (fun x hx => ?_)) (.old rfl (BLe.refl _) (.old rfl (BLe.refl _) .nil)))
      exact set_brow hk x
  have hst : ∀ i, (st i).1.length = F.blocks.length ∧ (st i).2.length + (st i).1.count false + 1 ≤ left.length + seen.count false ∧ (st i).1.count false ≤ f := by
    intro i
    have := fold_keeps (into_keeps F (f + 1)) (N.take i) (seen.set k true, left) (by simpa using hlen) (fun x hx => by rw [← hN] at hx; exact next_in (List.mem_of_mem_take hx))
    dsimp only [Keeps] at this
    refine ⟨this.1, ?_, ?_⟩
    · have h := this.2.1
      show ((N.take i).foldl (fun s k => into F (f + 1) k s) (seen.set k true, left)).2.length + ((N.take i).foldl (fun s k => into F (f + 1) k s) (seen.set k true, left)).1.count false + 1 ≤ _
      omega
    · have h := this.2.2
      show ((N.take i).foldl (fun s k => into F (f + 1) k s) (seen.set k true, left)).1.count false ≤ _
      omega
  have hstep : ∀ i, i < N.length → st (i + 1) = into F (f + 1) (N.getD i 0) (st i) := by
    intro i hi
    show (N.take (i + 1)).foldl _ _ = _
    rw [List.take_succ_eq_append_getElem hi, List.foldl_append]
    simp [List.getD_eq_getElem?_getD, hi, st]
  have hin : ∀ i, i < N.length → 0 ≤ N.getD i 0 ∧ N.getD i 0 < F.blocks.length := by
    intro i hi
    refine next_in (F := F) (n := k) ?_
    rw [hN, List.getD_eq_getElem?_getD, List.getElem?_eq_getElem hi]
    exact List.getElem_mem hi
  have hfull : (N.foldl (fun s k => into F (f + 1) k s) (seen.set k true, left)) = st N.length := by
    show _ = (N.take N.length).foldl _ _
    rw [List.take_length]
  clear_value st
  intro i hi
  repeat' first | refine AWp_seq ?_ | (refine AWp_reg tok (by rfl) ?_; conv => whnf) | (refine AWp_any tok mix (by rfl) ?_; conv => whnf) | refine AWp_block ?_ | (refine AWp_skip ?_; conv => whnf) | (refine AWp_exit ?_; conv => whnf) | (refine AWp_ret ?_; conv => whnf) | refine AWp_cond rfl (fun hb => ?_) (fun hb => ?_) | (refine @And.intro (underG _ _ _ _) _ ?_ ?_; rotate_left; (conv => whnf); rotate_right) | (refine fun (bn : Bool) (hbn : (0 < _ → bn = _)) => ?_; conv => whnf)
  · simp only [underG, Bool.not_eq_eq_eq_not, Bool.not_true, Bool.not_false, decide_eq_true_eq, decide_eq_false_iff_not, Int.toNat_natCast, Decidable.not_not, maxL] at *
    exact ⟨by omega, by omega⟩
  · simp only [underG, Bool.not_eq_eq_eq_not, Bool.not_true, Bool.not_false, decide_eq_true_eq, decide_eq_false_iff_not, Int.toNat_natCast, Decidable.not_not, maxL] at *
    omega
  · have hi' : i < N.length := by
      simp only [underG, Bool.not_eq_eq_eq_not, Bool.not_true, Bool.not_false, decide_eq_true_eq, decide_eq_false_iff_not, Int.toNat_natCast, Decidable.not_not, maxL] at *
      omega
    refine .inr ⟨_, _, _, QH.of (dead := [i2]) [(i0, .old i0, wbox F (st i).2.length), (i1, .old i1, brow F.blocks.length (st i).1), (i2, .old i2, irow (st i).2.length (st i).2)]
      (ih f (by omega) (N.getD i 0) (st i) (hst i).1 (hin i hi').1 (hin i hi').2 (hst i).2.2 (by have := (hst i).2.1; omega)) rfl
      (.old rfl (BLe.refl _) (.old rfl (BLe.refl _) (.old rfl (BLe.refl _) .nil))) (.cons (.eq rfl) (.cons (TLe.int (by simp)) .nil)) [(i0, i0), (i1, i1), (i2, (32, 0, 0))] rfl (.cons rfl (BLe.refl _) (.cons rfl (BLe.refl _) (.cons rfl (BLe.refl _) .nil))) rfl, ?_⟩
    conv => whnf
    repeat' first | refine AWp_seq ?_ | (refine AWp_reg tok (by rfl) ?_; conv => whnf) | (refine AWp_any tok mix (by rfl) ?_; conv => whnf) | refine AWp_block ?_ | (refine AWp_skip ?_; conv => whnf) | (refine AWp_exit ?_; conv => whnf) | (refine AWp_ret ?_; conv => whnf) | refine AWp_cond rfl (fun hb => ?_) (fun hb => ?_) | (refine @And.intro (underG _ _ _ _) _ ?_ ?_; rotate_left; (conv => whnf); rotate_right) | (refine fun (bn : Bool) (hbn : (0 < _ → bn = _)) => ?_; conv => whnf)
    refine ⟨i + 1, hi', by omega, ?_⟩
    rw [hstep i hi']
    generalize into F (f + 1) (N.getD i 0) (st i) = s1
    refine Weak.list [(i0, .old i0, wbox F s1.2.length), (i1, .old i1, brow F.blocks.length s1.1), (i2, .old (32, 0, 0), irow s1.2.length s1.2), ((24, 0, 0), .old (24, 0, 0), irow N.length N)] rfl (by rfl) ?_
      (.old rfl (BLe.refl _) (.old rfl (BLe.refl _) (.old rfl (BLe.refl _) (.old rfl (BLe.refl _) .nil))))
    (repeat' first | exact TLes.nil | refine TLes.cons (TLe.eq rfl) ?_ | refine TLes.cons (TLe.int ?_) ?_ | refine TLes.cons (TLe.bool ?_) ?_)
    simp only [underG, Bool.not_eq_eq_eq_not, Bool.not_true, Bool.not_false, decide_eq_true_eq, decide_eq_false_iff_not, Int.toNat_natCast, Decidable.not_not, maxL] at *
    rw [wrap64 (by omega) (by omega)]; rfl
  · have h2 := (hst i).2.1
    simp only [underG, Bool.not_eq_eq_eq_not, Bool.not_true, Bool.not_false, decide_eq_true_eq, decide_eq_false_iff_not, Int.toNat_natCast, Decidable.not_not, maxL] at *
    exact ⟨(show 0 + 1 ≤ 1 by decide), Nat.le_refl _, by omega⟩
  · have ei : i = N.length := by
      simp only [underG, Bool.not_eq_eq_eq_not, Bool.not_true, Bool.not_false, decide_eq_true_eq, decide_eq_false_iff_not, Int.toNat_natCast, Decidable.not_not, maxL] at *
      omega
    have e : into F (f + 1 + 1) (k : Int) (seen, left) = ((st i).1, (st i).2 ++ [(k : Int)]) := by
      rw [show into F (f + 1 + 1) (k : Int) (seen, left) = (let s1 := (next F k).foldl (fun s k => into F (f + 1) k s) (seen.set (k : Int).toNat true, left); (s1.1, s1.2 ++ [(k : Int)])) by
        rw [into]; simp only [Int.toNat_natCast, hb', if_false, Bool.false_eq_true]]
      simp only [hN, Int.toNat_natCast, ei, hfull]
    rw [e]
    generalize st i = s1
    obtain ⟨sn, lf⟩ := s1
    refine ⟨_, [(i0, .old i0, wbox F (lf ++ [(k : Int)]).length), (i1, .old i1, brow F.blocks.length sn), (i2, .old (41, 0, 0), irow (lf ++ [(k : Int)]).length (lf ++ [(k : Int)]))], rfl, rfl, rfl, rfl, .old rfl (BLe.row rfl (fun x hx => ?_)) (.old rfl (BLe.refl _) (.old rfl (BLe.row (by simp) (fun x hx => ?_)) .nil)), .eq rfl⟩
    · have : x = 0 := by omega
      subst this
      rw [List.length_append]; rfl
    · exact app_row (by simpa using hx)
end Go.Proofs.Ytmkiahbnfmpieaa
namespace Go.Proofs.Ytmkiahbnfmpieaa
open Go Dv
set_option maxRecDepth 10000
set_option linter.unusedSimpArgs false
abbrev none0 (F : Func) : List Bool × List Int := (List.replicate F.blocks.length false, [])
def walkedF (F : Func) : List Bool × List Int := if 0 < F.blocks.length then into F (F.blocks.length + 1) 0 (none0 F) else none0 F
theorem hc38 (F : Func) : HC Try.prog [] 38 [] [.agg (encFunc F)] (.bp i0 0) (walkH F (walkedF F)) := by
  refine HC_intro tok Try.func38 rfl (by decide +kernel) (Nat.le_of_ble_eq_true rfl) ?_
  refine AWp_facts 0 (fun hl => ?_)
  have hl0 : F.blocks.length ≤ maxL := hl.2.2.1.1
  repeat' first | refine AWp_seq ?_ | (refine AWp_reg tok (by rfl) ?_; conv => whnf) | (refine AWp_any tok mix (by rfl) ?_; conv => whnf) | refine AWp_block ?_ | (refine AWp_skip ?_; conv => whnf) | (refine AWp_exit ?_; conv => whnf) | (refine AWp_ret ?_; conv => whnf) | refine AWp_cond rfl (fun hb => ?_) (fun hb => ?_) | (refine @And.intro (underG _ _ _ _) _ ?_ ?_; rotate_left; (conv => whnf); rotate_right) | (refine fun (bn : Bool) (hbn : (0 < _ → bn = _)) => ?_; conv => whnf)
  · simp only [underG, Bool.not_eq_eq_eq_not, Bool.not_true, Bool.not_false, decide_eq_true_eq, decide_eq_false_iff_not, Int.toNat_natCast, Decidable.not_not, maxL] at *
    exact ⟨trivial, by omega, by omega⟩
  · refine .inr ⟨_, _, _, QH.of (dead := []) [(i0, .old (10, 0, 0), wbox F 0), (i1, .old (8, 0, 0), brow F.blocks.length (List.replicate F.blocks.length false)), (i2, .nil, irow 0 [])]
      (hc47 F F.blocks.length 0 (none0 F) (by simp) (by omega) (of_decide_eq_true hb) (by simp) (by simpa using hl0)) rfl
      (.oldR rfl (BLeR.cells rfl (fun x hx => .cons .eq (.cons .eq (.cons .eq (.cons .eq (.cons (.nil rfl) .nil)))))) (.old rfl (BLe.row rfl (fun x hx => ?_)) (.new .nil)))
      (.cons (.eq rfl) (.cons (.eq rfl) .nil)) [(i0, (10, 0, 0)), (i1, (8, 0, 0)), (i2, (16, 0, 0))] rfl (.cons rfl (BLe.refl _) (.cons rfl (BLe.refl _) (.cons rfl (BLe.refl _) .nil))) rfl, ?_⟩
    · show [AV.bool false] = [AV.bool ((List.replicate F.blocks.length false).getD x false)]
      simp [List.getD_eq_getElem?_getD, List.getElem?_replicate]
      split <;> rfl
    conv => whnf
    repeat' first | refine AWp_seq ?_ | (refine AWp_reg tok (by rfl) ?_; conv => whnf) | (refine AWp_any tok mix (by rfl) ?_; conv => whnf) | refine AWp_block ?_ | (refine AWp_skip ?_; conv => whnf) | (refine AWp_exit ?_; conv => whnf) | (refine AWp_ret ?_; conv => whnf) | refine AWp_cond rfl (fun hb => ?_) (fun hb => ?_) | (refine @And.intro (underG _ _ _ _) _ ?_ ?_; rotate_left; (conv => whnf); rotate_right) | (refine fun (bn : Bool) (hbn : (0 < _ → bn = _)) => ?_; conv => whnf)
    have e : walkedF F = into F (F.blocks.length + 1) 0 (none0 F) := by
      simp only [underG, Bool.not_eq_eq_eq_not, Bool.not_true, Bool.not_false, decide_eq_true_eq, decide_eq_false_iff_not, Int.toNat_natCast, Decidable.not_not, maxL] at *
      simp only [walkedF]; rw [if_pos (by omega)]
    rw [e]
    generalize into F (F.blocks.length + 1) 0 (none0 F) = s1
    exact ⟨_, [(i0, .old (10, 0, 0), wbox F s1.2.length), (i1, .old (8, 0, 0), brow F.blocks.length s1.1), (i2, .old (16, 0, 0), irow s1.2.length s1.2)], rfl, rfl, rfl, rfl, .old rfl (BLe.refl _) (.old rfl (BLe.refl _) (.old rfl (BLe.refl _) .nil)), .eq rfl⟩
  · have e : walkedF F = none0 F := by
      simp only [underG, Bool.not_eq_eq_eq_not, Bool.not_true, Bool.not_false, decide_eq_true_eq, decide_eq_false_iff_not, Int.toNat_natCast, Decidable.not_not, maxL] at *
      simp only [walkedF]; rw [if_neg (by omega)]
    rw [e]
    refine ⟨_, [(i0, .old (10, 0, 0), wbox F 0), (i1, .old (8, 0, 0), brow F.blocks.length (List.replicate F.blocks.length false)), (i2, .nil, irow 0 [])], rfl, rfl, rfl, rfl,
      .oldR rfl (BLeR.cells rfl (fun x hx => .cons .eq (.cons .eq (.cons .eq (.cons .eq (.cons (.nil rfl) .nil)))))) (.old rfl (BLe.row rfl (fun x hx => ?_)) (.new .nil)), .eq rfl⟩
    show [AV.bool false] = [AV.bool ((List.replicate F.blocks.length false).getD x false)]
    simp [List.getD_eq_getElem?_getD, List.getElem?_replicate]
    split <;> rfl
end Go.Proofs.Ytmkiahbnfmpieaa
namespace Go.Proofs.Ytmkiahbnfmpieaa
open Go Dv
set_option maxRecDepth 10000
set_option linter.unusedSimpArgs false
theorem fo22 (F : Func) : FO Try.prog 22 [.agg (encFunc F)] 1 F.blocks.length (fun x => [.bool ((walkedF F).1.getD x false)]) := by
  refine FO_intro tok Try.func22 rfl (by decide +kernel) (Nat.le_of_ble_eq_true rfl) ?_
  repeat' first | refine AWp_seq ?_ | (refine AWp_reg tok (by rfl) ?_; conv => whnf) | (refine AWp_any tok mix (by rfl) ?_; conv => whnf) | refine AWp_block ?_ | (refine AWp_skip ?_; conv => whnf) | (refine AWp_exit ?_; conv => whnf) | (refine AWp_ret ?_; conv => whnf) | refine AWp_cond rfl (fun hb => ?_) (fun hb => ?_) | (refine @And.intro (underG _ _ _ _) _ ?_ ?_; rotate_left; (conv => whnf); rotate_right) | (refine fun (bn : Bool) (hbn : (0 < _ → bn = _)) => ?_; conv => whnf)
  refine .inr ⟨_, _, _, QH.of (dead := []) [] (hc38 F) rfl .nil (.cons (.eq rfl) .nil) [(i0, (5, 1, 0)), (i1, (5, 2, 0)), (i2, (5, 3, 0))] rfl (.cons rfl (BLe.refl _) (.cons rfl (BLe.refl _) (.cons rfl (BLe.refl _) .nil))) rfl, ?_⟩
  conv => whnf
  repeat' first | refine AWp_seq ?_ | (refine AWp_reg tok (by rfl) ?_; conv => whnf) | (refine AWp_any tok mix (by rfl) ?_; conv => whnf) | refine AWp_block ?_ | (refine AWp_skip ?_; conv => whnf) | (refine AWp_exit ?_; conv => whnf) | (refine AWp_ret ?_; conv => whnf) | refine AWp_cond rfl (fun hb => ?_) (fun hb => ?_) | (refine @And.intro (underG _ _ _ _) _ ?_ ?_; rotate_left; (conv => whnf); rotate_right) | (refine fun (bn : Bool) (hbn : (0 < _ → bn = _)) => ?_; conv => whnf)
  exact ⟨_, rfl, RelO.rs rfl (Nat.le_refl _) rfl (fun _ _ => rfl)⟩
end Go.Proofs.Ytmkiahbnfmpieaa
namespace Go.Proofs.Ytmkiahbnfmpieaa
open Go Dv
set_option maxRecDepth 10000
set_option linter.unusedSimpArgs false
/-- the state of a reversal: i from the left, the rest not yet -/
structure RevI (l : List Int) (i : Nat) (r : List Int) : Prop where
  len : r.length = l.length
  hi : 2 * i ≤ l.length + 1
  out : ∀ x, (x < i ∨ l.length - i ≤ x) → x < l.length → r.getD x 0 = l.getD (l.length - 1 - x) 0
  mid : ∀ x, i ≤ x → x < l.length - i → r.getD x 0 = l.getD x 0
theorem RevI.step {l : List Int} {i : Nat} {r : List Int} (h : RevI l i r) (hi : 2 * i + 1 < l.length) :
    RevI l (i + 1) ((r.set i (r.getD (l.length - 1 - i) 0)).set (l.length - 1 - i) (r.getD i 0)) := by
  have hl := h.len
  refine ⟨by simp [hl], by omega, fun x hx hxl => ?_, fun x h1 h2 => ?_⟩
  · rw [getD_set, getD_set]
    simp only [List.length_set]
    by_cases e1 : l.length - 1 - i = x
    · rw [if_pos ⟨e1, by omega⟩, h.mid i (by omega) (by omega)]; congr 1; omega
    · rw [if_neg (fun h => e1 h.1)]
      by_cases e2 : i = x
      · rw [if_pos ⟨e2, by omega⟩, h.mid _ (by omega) (by omega), e2]
      · rw [if_neg (fun h => e2 h.1)]
        exact h.out x (by omega) hxl
  · rw [getD_set, getD_set]
    rw [if_neg (by omega), if_neg (by omega)]
    exact h.mid x (by omega) (by omega)
theorem RevI.done {l : List Int} {i : Nat} {r : List Int} (h : RevI l i r) (hi : l.length ≤ 2 * i + 1) : r = l.reverse := by
  apply List.ext_getElem
  · simp [h.len]
  · intro x h1 h2
    have hx : x < l.length := by rw [← h.len]; exact h1
    have e : r.getD x 0 = l.getD (l.length - 1 - x) 0 := by
      by_cases c : x < i ∨ l.length - i ≤ x
      · exact h.out x c hx
      · rw [h.mid x (by omega) (by omega)]; congr 1; omega
    rw [List.getElem_reverse]
    simpa [List.getD_eq_getElem?_getD, h1, show l.length - 1 - x < l.length by omega] using e
theorem hc40 (l : List Int) : HC Try.prog [i0] 40 [(i0, irow l.length l)] [.rs i0 1 0 l.length] (.tup []) [(i0, irow l.length l.reverse)] := by
  refine HC_intro tok Try.func40 rfl (by decide +kernel) (Nat.le_of_ble_eq_true rfl) ?_
  refine AWp_facts 0 (fun hl => ?_)
  have hl0 : l.length ≤ maxL := hl
  ((repeat' first | refine AWp_seq ?_ | (refine AWp_reg tok (by rfl) ?_; conv => whnf) | (refine AWp_any tok mix (by rfl) ?_; conv => whnf) | refine AWp_block ?_ | (refine AWp_skip ?_; conv => whnf) | (refine AWp_exit ?_; conv => whnf) | (refine AWp_ret ?_; conv => whnf) | refine AWp_cond rfl (fun hb => ?_) (fun hb => ?_) | (refine @And.intro (underG _ _ _ _) _ ?_ ?_; rotate_left; (conv => whnf); rotate_right) | (refine fun (bn : Bool) (hbn : (0 < _ → bn = _)) => ?_; conv => whnf)); all_goals (try ((first | refine underG_none ?_ | (refine underG_some ?_; intro hgd; conv at hgd => whnf)); (first | refine And.intro (srcObl_rs rfl ?_) ?_ | refine And.intro srcObl_sl ?_ | refine And.intro srcObl_nsl ?_ | skip); (all_goals (try simp only [underG, true_and, and_true, Bool.cond_true_left, Bool.cond_false_left, Bool.cond_true_right, Bool.cond_false_right, Bool.or_eq_true, Bool.and_eq_true, Bool.or_eq_false_iff, Bool.and_eq_false_iff, cond_true, cond_false, Bool.not_eq_eq_eq_not, Bool.not_true, Bool.not_false, decide_eq_true_eq, decide_eq_false_iff_not, Int.toNat_natCast, Nat.zero_add, Decidable.not_not, maxL] at *)); all_goals omega)))
  refine AWp_loop (fun s : Nat × List Int => mkS [(0, .rs i0 1 0 l.length), (2, iv s.1), (3, iv ((l.length : Int) - 1 - s.1))] [(i0, irow l.length s.2)])
    (fun s => RevI l s.1 s.2) (fun s => l.length - s.1) (0, l) ⟨rfl, by simp, fun x hx h => by omega, fun x _ _ => rfl⟩ ?_ ?_
  · refine Weak.list [(i0, .old i0, irow l.length l)] rfl (by rfl) ?_ (.old rfl (BLe.refl _) .nil)
    (repeat' first | exact TLes.nil | refine TLes.cons (TLe.eq rfl) ?_ | refine TLes.cons (TLe.nilL rfl ?_) ?_ | refine TLes.cons (TLe.rsL rfl ?_) ?_ | refine TLes.cons (TLe.int ?_) ?_ | refine TLes.cons (TLe.bool ?_) ?_)
    simp only [underG, true_and, and_true, Bool.cond_true_left, Bool.cond_false_left, Bool.cond_true_right, Bool.cond_false_right, Bool.or_eq_true, Bool.and_eq_true, Bool.or_eq_false_iff, Bool.and_eq_false_iff, cond_true, cond_false, Bool.not_eq_eq_eq_not, Bool.not_true, Bool.not_false, decide_eq_true_eq, decide_eq_false_iff_not, Int.toNat_natCast, Nat.zero_add, Decidable.not_not, maxL] at *
    rw [wrap64 (by omega) (by omega)]; simp
  rintro ⟨i, r⟩ hI
  replace hI : RevI l i r := hI
  have hIl := hI.len
  ((repeat' first | refine AWp_seq ?_ | (refine AWp_reg tok (by rfl) ?_; conv => whnf) | (refine AWp_any tok mix (by rfl) ?_; conv => whnf) | refine AWp_block ?_ | (refine AWp_skip ?_; conv => whnf) | (refine AWp_exit ?_; conv => whnf) | (refine AWp_ret ?_; conv => whnf) | refine AWp_cond rfl (fun hb => ?_) (fun hb => ?_) | (refine @And.intro (underG _ _ _ _) _ ?_ ?_; rotate_left; (conv => whnf); rotate_right) | (refine fun (bn : Bool) (hbn : (0 < _ → bn = _)) => ?_; conv => whnf)); all_goals (try ((first | refine underG_none ?_ | (refine underG_some ?_; intro hgd; conv at hgd => whnf)); (first | refine And.intro (srcObl_rs rfl ?_) ?_ | refine And.intro srcObl_sl ?_ | refine And.intro srcObl_nsl ?_ | skip); (all_goals (try simp only [underG, true_and, and_true, Bool.cond_true_left, Bool.cond_false_left, Bool.cond_true_right, Bool.cond_false_right, Bool.or_eq_true, Bool.and_eq_true, Bool.or_eq_false_iff, Bool.and_eq_false_iff, cond_true, cond_false, Bool.not_eq_eq_eq_not, Bool.not_true, Bool.not_false, decide_eq_true_eq, decide_eq_false_iff_not, Int.toNat_natCast, Nat.zero_add, Decidable.not_not, maxL] at *)); all_goals omega)))
  all_goals simp only [underG, true_and, and_true, Bool.cond_true_left, Bool.cond_false_left, Bool.cond_true_right, Bool.cond_false_right, Bool.or_eq_true, Bool.and_eq_true, Bool.or_eq_false_iff, Bool.and_eq_false_iff, cond_true, cond_false, Bool.not_eq_eq_eq_not, Bool.not_true, Bool.not_false, decide_eq_true_eq, decide_eq_false_iff_not, Int.toNat_natCast, Nat.zero_add, Decidable.not_not, maxL] at *
  all_goals (try omega)
  · have hj : ((l.length : Int) - 1 - i).toNat = l.length - 1 - i := by omega
    refine ⟨(i + 1, (r.set i (r.getD (l.length - 1 - i) 0)).set (l.length - 1 - i) (r.getD i 0)), hI.step (by omega), (show l.length - (i + 1) < l.length - i by omega), ?_⟩
    refine Weak.list [(i0, .old i0, irow l.length ((r.set i (r.getD (l.length - 1 - i) 0)).set (l.length - 1 - i) (r.getD i 0)))] rfl (by rfl) ?_ (.old rfl (BLe.row rfl (fun x hx => ?_)) .nil)
    · (repeat' first | exact TLes.nil | refine TLes.cons (TLe.eq rfl) ?_ | refine TLes.cons (TLe.nilL rfl ?_) ?_ | refine TLes.cons (TLe.rsL rfl ?_) ?_ | refine TLes.cons (TLe.int ?_) ?_ | refine TLes.cons (TLe.bool ?_) ?_)
      · rw [wrap64 (by omega) (by omega)]; rfl
      · rw [wrap64 (by omega) (by omega)]; simp; omega
    · show updR (updR (fun x => [iv (r.getD x 0)]) i [iv (r.getD ((l.length : Int) - 1 - i).toNat 0)]) ((l.length : Int) - 1 - i).toNat [iv (r.getD i 0)] x = _
      simp only [hj]
      rw [updR_congr (g := fun x => [iv ((r.set i (r.getD (l.length - 1 - i) 0)).getD x 0)]) (upd_row' (fun n => [iv n]) 0 r (by omega) rfl rfl x)]
      exact upd_row' (fun n => [iv n]) 0 _ (by simp; omega) rfl rfl x
  · have e := hI.done (by omega)
    subst e
    exact ⟨_, [(i0, .old i0, irow l.length l.reverse)], rfl, rfl, rfl, rfl, .old rfl (BLe.refl _) .nil, .eq rfl⟩
end Go.Proofs.Ytmkiahbnfmpieaa
namespace Go.Proofs.Ytmkiahbnfmpieaa
open Go Dv
set_option maxRecDepth 10000
set_option linter.unusedSimpArgs false
/-- where a number is first -/
def indexOf (l : List Int) (k : Int) : Int := idxOf (fun x => decide (k = x)) l
theorem fc46 (l : List Int) (k : Int) : FC Try.prog 46 [ints l, iv k] (iv (indexOf l k)) := by
  refine FC_intro tok Try.func46 rfl (by decide +kernel) (Nat.le_of_ble_eq_true rfl) ?_
  refine AWp_facts 0 (fun hl => ?_)
  have hl0 : l.length ≤ maxL := hl.1
  ((repeat' first | refine AWp_seq ?_ | (refine AWp_reg tok (by rfl) ?_; conv => whnf) | (refine AWp_any tok mix (by rfl) ?_; conv => whnf) | refine AWp_block ?_ | (refine AWp_skip ?_; conv => whnf) | (refine AWp_exit ?_; conv => whnf) | (refine AWp_ret ?_; conv => whnf) | refine AWp_cond rfl (fun hb => ?_) (fun hb => ?_) | (refine @And.intro (underG _ _ _ _) _ ?_ ?_; rotate_left; (conv => whnf); rotate_right) | (refine fun (bn : Bool) (hbn : (0 < _ → bn = _)) => ?_; conv => whnf)); all_goals (try ((first | refine underG_none ?_ | (refine underG_some ?_; intro hgd; conv at hgd => whnf)); (first | refine And.intro (srcObl_rs rfl ?_) ?_ | refine And.intro srcObl_sl ?_ | refine And.intro srcObl_nsl ?_ | skip); (all_goals (try simp only [underG, true_and, and_true, Bool.cond_true_left, Bool.cond_false_left, Bool.cond_true_right, Bool.cond_false_right, Bool.or_eq_true, Bool.and_eq_true, Bool.or_eq_false_iff, Bool.and_eq_false_iff, cond_true, cond_false, Bool.not_eq_eq_eq_not, Bool.not_true, Bool.not_false, decide_eq_true_eq, decide_eq_false_iff_not, Int.toNat_natCast, Nat.zero_add, Decidable.not_not, maxL] at *)); all_goals omega)))
  refine AWp_loop (fun i : Nat => mkS [(0, ints l), (1, iv k), (7, iv l.length), (8, iv i)] []) (fun i => i ≤ l.length ∧ ∀ j, j < i → decide (k = l.getD j 0) = false) (fun i => l.length - i) 0 ⟨Nat.zero_le _, by simp⟩ ?_ ?_
  · refine Weak.list [] rfl (by rfl) ?_ .nil
    (repeat' first | exact TLes.nil | refine TLes.cons (TLe.eq rfl) ?_ | refine TLes.cons (TLe.nilL rfl ?_) ?_ | refine TLes.cons (TLe.rsL rfl ?_) ?_ | refine TLes.cons (TLe.int ?_) ?_ | refine TLes.cons (TLe.bool ?_) ?_)
  rintro i ⟨hi, hc⟩
  ((repeat' first | refine AWp_seq ?_ | (refine AWp_reg tok (by rfl) ?_; conv => whnf) | (refine AWp_any tok mix (by rfl) ?_; conv => whnf) | refine AWp_block ?_ | (refine AWp_skip ?_; conv => whnf) | (refine AWp_exit ?_; conv => whnf) | (refine AWp_ret ?_; conv => whnf) | refine AWp_cond rfl (fun hb => ?_) (fun hb => ?_) | (refine @And.intro (underG _ _ _ _) _ ?_ ?_; rotate_left; (conv => whnf); rotate_right) | (refine fun (bn : Bool) (hbn : (0 < _ → bn = _)) => ?_; conv => whnf)); all_goals (try ((first | refine underG_none ?_ | (refine underG_some ?_; intro hgd; conv at hgd => whnf)); (first | refine And.intro (srcObl_rs rfl ?_) ?_ | refine And.intro srcObl_sl ?_ | refine And.intro srcObl_nsl ?_ | skip); (all_goals (try simp only [underG, true_and, and_true, Bool.cond_true_left, Bool.cond_false_left, Bool.cond_true_right, Bool.cond_false_right, Bool.or_eq_true, Bool.and_eq_true, Bool.or_eq_false_iff, Bool.and_eq_false_iff, cond_true, cond_false, Bool.not_eq_eq_eq_not, Bool.not_true, Bool.not_false, decide_eq_true_eq, decide_eq_false_iff_not, Int.toNat_natCast, Nat.zero_add, Decidable.not_not, maxL] at *)); all_goals omega)))
  all_goals simp only [underG, true_and, and_true, Bool.cond_true_left, Bool.cond_false_left, Bool.cond_true_right, Bool.cond_false_right, Bool.or_eq_true, Bool.and_eq_true, Bool.or_eq_false_iff, Bool.and_eq_false_iff, cond_true, cond_false, Bool.not_eq_eq_eq_not, Bool.not_true, Bool.not_false, decide_eq_true_eq, decide_eq_false_iff_not, Int.toNat_natCast, Nat.zero_add, Decidable.not_not, maxL] at *
  · refine ⟨_, rfl, Rel.int ?_⟩
    rename_i h1
    exact (idx_at (by omega) (fun j hj => by simpa using hc j hj) (by simpa using hb)).symm
  · rename_i h1
    refine ⟨i + 1, ⟨by omega, fun j hj => ?_⟩, by omega, ?_⟩
    · by_cases e : j = i
      · subst e; simpa using hb
      · exact hc j (by omega)
    refine Weak.list [] rfl (by rfl) ?_ .nil
    (repeat' first | exact TLes.nil | refine TLes.cons (TLe.eq rfl) ?_ | refine TLes.cons (TLe.nilL rfl ?_) ?_ | refine TLes.cons (TLe.rsL rfl ?_) ?_ | refine TLes.cons (TLe.int ?_) ?_ | refine TLes.cons (TLe.bool ?_) ?_)
    rw [wrap64 (by omega) (by omega)]; rfl
  · refine ⟨_, rfl, Rel.int ?_⟩
    exact (idx_none (fun j hj => by simpa using hc j (by omega))).symm
theorem indexOf_contains (l : List Int) (k : Int) : decide (0 ≤ indexOf l k) = l.contains k := by
  unfold indexOf idxOf
  cases h : l.findIdx? (fun x => decide (k = x)) with
  | none =>
    rw [List.findIdx?_eq_none_iff] at h
    symm
    simp only [Int.reduceNeg, Int.reduceLE, decide_false]
    rw [Bool.eq_false_iff]
    intro hc
    rw [List.contains_iff_mem] at hc
    have := h k hc
    simp at this
  | some i =>
    rw [List.findIdx?_eq_some_iff_getElem] at h
    obtain ⟨hi, h1, h2⟩ := h
    have : decide (0 ≤ (i : Int)) = true := by simp
    rw [this]
    symm
    rw [List.contains_iff_mem]
    have e : k = l[i] := by simpa using h1
    rw [e]; exact List.getElem_mem hi
theorem fc37 (l : List Int) (k : Int) : FC Try.prog 37 [ints l, iv k] (.bool (l.contains k)) := by
  refine FC_intro tok Try.func37 rfl (by decide +kernel) (Nat.le_of_ble_eq_true rfl) ?_
  ((repeat' first | refine AWp_seq ?_ | (refine AWp_reg tok (by rfl) ?_; conv => whnf) | (refine AWp_any tok mix (by rfl) ?_; conv => whnf) | refine AWp_block ?_ | (refine AWp_skip ?_; conv => whnf) | (refine AWp_exit ?_; conv => whnf) | (refine AWp_ret ?_; conv => whnf) | refine AWp_cond rfl (fun hb => ?_) (fun hb => ?_) | (refine @And.intro (underG _ _ _ _) _ ?_ ?_; rotate_left; (conv => whnf); rotate_right) | (refine fun (bn : Bool) (hbn : (0 < _ → bn = _)) => ?_; conv => whnf)); all_goals (try ((first | refine underG_none ?_ | (refine underG_some ?_; intro hgd; conv at hgd => whnf)); (first | refine And.intro (srcObl_rs rfl ?_) ?_ | refine And.intro srcObl_sl ?_ | refine And.intro srcObl_nsl ?_ | skip); (all_goals (try simp only [underG, true_and, and_true, Bool.cond_true_left, Bool.cond_false_left, Bool.cond_true_right, Bool.cond_false_right, Bool.or_eq_true, Bool.and_eq_true, Bool.or_eq_false_iff, Bool.and_eq_false_iff, cond_true, cond_false, Bool.not_eq_eq_eq_not, Bool.not_true, Bool.not_false, decide_eq_true_eq, decide_eq_false_iff_not, Int.toNat_natCast, Nat.zero_add, Decidable.not_not, maxL] at *)); all_goals omega)))
  refine .inl ⟨_, _, _, uG (QC.fc (fc46 l k) rfl), ?_⟩
  conv => whnf
  ((repeat' first | refine AWp_seq ?_ | (refine AWp_reg tok (by rfl) ?_; conv => whnf) | (refine AWp_any tok mix (by rfl) ?_; conv => whnf) | refine AWp_block ?_ | (refine AWp_skip ?_; conv => whnf) | (refine AWp_exit ?_; conv => whnf) | (refine AWp_ret ?_; conv => whnf) | refine AWp_cond rfl (fun hb => ?_) (fun hb => ?_) | (refine @And.intro (underG _ _ _ _) _ ?_ ?_; rotate_left; (conv => whnf); rotate_right) | (refine fun (bn : Bool) (hbn : (0 < _ → bn = _)) => ?_; conv => whnf)); all_goals (try ((first | refine underG_none ?_ | (refine underG_some ?_; intro hgd; conv at hgd => whnf)); (first | refine And.intro (srcObl_rs rfl ?_) ?_ | refine And.intro srcObl_sl ?_ | refine And.intro srcObl_nsl ?_ | skip); (all_goals (try simp only [underG, true_and, and_true, Bool.cond_true_left, Bool.cond_false_left, Bool.cond_true_right, Bool.cond_false_right, Bool.or_eq_true, Bool.and_eq_true, Bool.or_eq_false_iff, Bool.and_eq_false_iff, cond_true, cond_false, Bool.not_eq_eq_eq_not, Bool.not_true, Bool.not_false, decide_eq_true_eq, decide_eq_false_iff_not, Int.toNat_natCast, Nat.zero_add, Decidable.not_not, maxL] at *)); all_goals omega)))
  refine ⟨_, rfl, Rel.bool ?_⟩
  exact indexOf_contains l k
def before (F : Func) (n : Int) : List Int := ((List.range F.blocks.length).filter fun k : Nat => (next F (k : Int)).contains n).map fun k : Nat => (k : Int)
def beforeTo (F : Func) (n : Int) (i : Nat) : List Int := ((List.range i).filter fun k : Nat => (next F (k : Int)).contains n).map fun k : Nat => (k : Int)
theorem beforeTo_succ (F : Func) (n : Int) (i : Nat) : beforeTo F n (i + 1) = if (next F i).contains n then beforeTo F n i ++ [(i : Int)] else beforeTo F n i := by
  unfold beforeTo
  rw [List.range_succ, List.filter_append, List.map_append]
  cases h : (next F (i : Int)).contains n <;> simp only [List.filter_cons, h] <;> simp
theorem beforeTo_len (F : Func) (n : Int) (i : Nat) : (beforeTo F n i).length ≤ i := by
  unfold beforeTo; rw [List.length_map]; exact Nat.le_trans (List.length_filter_le _ _) (by simp)
theorem fo19 (F : Func) (n : Int) : FO Try.prog 19 [.agg (encFunc F), iv n] 1 (before F n).length (fun i => [iv ((before F n).getD i 0)]) := by
  refine FO_intro tok Try.func19 rfl (by decide +kernel) (Nat.le_of_ble_eq_true rfl) ?_
  refine AWp_facts 0 (fun hl => ?_)
  have hl0 : F.blocks.length ≤ maxL := hl.2.2.1.1
  ((repeat' first | refine AWp_seq ?_ | (refine AWp_reg tok (by rfl) ?_; conv => whnf) | (refine AWp_any tok mix (by rfl) ?_; conv => whnf) | refine AWp_block ?_ | (refine AWp_skip ?_; conv => whnf) | (refine AWp_exit ?_; conv => whnf) | (refine AWp_ret ?_; conv => whnf) | refine AWp_cond rfl (fun hb => ?_) (fun hb => ?_) | (refine @And.intro (underG _ _ _ _) _ ?_ ?_; rotate_left; (conv => whnf); rotate_right) | (refine fun (bn : Bool) (hbn : (0 < _ → bn = _)) => ?_; conv => whnf)); all_goals (try ((first | refine underG_none ?_ | (refine underG_some ?_; intro hgd; conv at hgd => whnf)); (first | refine And.intro (srcObl_rs rfl ?_) ?_ | refine And.intro srcObl_sl ?_ | refine And.intro srcObl_nsl ?_ | skip); (all_goals (try simp only [underG, true_and, and_true, Bool.cond_true_left, Bool.cond_false_left, Bool.cond_true_right, Bool.cond_false_right, Bool.or_eq_true, Bool.and_eq_true, Bool.or_eq_false_iff, Bool.and_eq_false_iff, cond_true, cond_false, Bool.not_eq_eq_eq_not, Bool.not_true, Bool.not_false, decide_eq_true_eq, decide_eq_false_iff_not, Int.toNat_natCast, Nat.zero_add, Decidable.not_not, maxL] at *)); all_goals omega)))
  refine AWp_loop (fun i : Nat => mkS [(1, iv n), (2, .bp (2, 0, 0) 0), (5, .rs (5, 9, 0) 1 0 (beforeTo F n i).length), (9, iv F.blocks.length), (10, iv i)] [((2, 0, 0), fbox F), ((5, 9, 0), irow (beforeTo F n i).length (beforeTo F n i))])
    (fun i => i ≤ F.blocks.length) (fun i => F.blocks.length - i) 0 (Nat.zero_le _) ?_ ?_
  · refine Weak.list [((2, 0, 0), .old (2, 0, 0), fbox F), ((5, 9, 0), .nil, irow 0 [])] rfl (by rfl) ?_ (.old rfl (BLe.refl _) (.new .nil))
    (repeat' first | exact TLes.nil | refine TLes.cons (TLe.eq rfl) ?_ | refine TLes.cons (TLe.nilL rfl ?_) ?_ | refine TLes.cons (TLe.rsL rfl ?_) ?_ | refine TLes.cons (TLe.int ?_) ?_ | refine TLes.cons (TLe.bool ?_) ?_)
    rfl
  intro i hi
  have hbl := beforeTo_len F n i
  have hbs := beforeTo_succ F n i
  ((repeat' first | refine AWp_seq ?_ | (refine AWp_reg tok (by rfl) ?_; conv => whnf) | (refine AWp_any tok mix (by rfl) ?_; conv => whnf) | refine AWp_block ?_ | (refine AWp_skip ?_; conv => whnf) | (refine AWp_exit ?_; conv => whnf) | (refine AWp_ret ?_; conv => whnf) | refine AWp_cond rfl (fun hb => ?_) (fun hb => ?_) | (refine @And.intro (underG _ _ _ _) _ ?_ ?_; rotate_left; (conv => whnf); rotate_right) | (refine fun (bn : Bool) (hbn : (0 < _ → bn = _)) => ?_; conv => whnf)); all_goals (try ((first | refine underG_none ?_ | (refine underG_some ?_; intro hgd; conv at hgd => whnf)); (first | refine And.intro (srcObl_rs rfl ?_) ?_ | refine And.intro srcObl_sl ?_ | refine And.intro srcObl_nsl ?_ | skip); (all_goals (try simp only [underG, true_and, and_true, Bool.cond_true_left, Bool.cond_false_left, Bool.cond_true_right, Bool.cond_false_right, Bool.or_eq_true, Bool.and_eq_true, Bool.or_eq_false_iff, Bool.and_eq_false_iff, cond_true, cond_false, Bool.not_eq_eq_eq_not, Bool.not_true, Bool.not_false, decide_eq_true_eq, decide_eq_false_iff_not, Int.toNat_natCast, Nat.zero_add, Decidable.not_not, maxL] at *)); all_goals omega)))
  · refine .inl ⟨_, _, _, uG (QC.fo (rd := []) (fo17 F i) (.cons (.imm rfl) (.cons (.imm rfl) .nil)) (.inl rfl) rfl), ?_⟩
    conv => whnf
    ((repeat' first | refine AWp_seq ?_ | (refine AWp_reg tok (by rfl) ?_; conv => whnf) | (refine AWp_any tok mix (by rfl) ?_; conv => whnf) | refine AWp_block ?_ | (refine AWp_skip ?_; conv => whnf) | (refine AWp_exit ?_; conv => whnf) | (refine AWp_ret ?_; conv => whnf) | refine AWp_cond rfl (fun hb => ?_) (fun hb => ?_) | (refine @And.intro (underG _ _ _ _) _ ?_ ?_; rotate_left; (conv => whnf); rotate_right) | (refine fun (bn : Bool) (hbn : (0 < _ → bn = _)) => ?_; conv => whnf)); all_goals (try ((first | refine underG_none ?_ | (refine underG_some ?_; intro hgd; conv at hgd => whnf)); (first | refine And.intro (srcObl_rs rfl ?_) ?_ | refine And.intro srcObl_sl ?_ | refine And.intro srcObl_nsl ?_ | skip); (all_goals (try simp only [underG, true_and, and_true, Bool.cond_true_left, Bool.cond_false_left, Bool.cond_true_right, Bool.cond_false_right, Bool.or_eq_true, Bool.and_eq_true, Bool.or_eq_false_iff, Bool.and_eq_false_iff, cond_true, cond_false, Bool.not_eq_eq_eq_not, Bool.not_true, Bool.not_false, decide_eq_true_eq, decide_eq_false_iff_not, Int.toNat_natCast, Nat.zero_add, Decidable.not_not, maxL] at *)); all_goals omega)))
    refine .inl ⟨_, _, _, uG (QC.sc (rd := [(15, 0, 0)]) (fc37 (next F i) n) (.cons (.row rfl (.head _) rfl rfl (fun _ _ => rfl)) (.cons (.imm rfl) .nil)) rfl), ?_⟩
    conv => whnf
    ((repeat' first | refine AWp_seq ?_ | (refine AWp_reg tok (by rfl) ?_; conv => whnf) | (refine AWp_any tok mix (by rfl) ?_; conv => whnf) | refine AWp_block ?_ | (refine AWp_skip ?_; conv => whnf) | (refine AWp_exit ?_; conv => whnf) | (refine AWp_ret ?_; conv => whnf) | refine AWp_cond rfl (fun hb => ?_) (fun hb => ?_) | (refine @And.intro (underG _ _ _ _) _ ?_ ?_; rotate_left; (conv => whnf); rotate_right) | (refine fun (bn : Bool) (hbn : (0 < _ → bn = _)) => ?_; conv => whnf)); all_goals (try ((first | refine underG_none ?_ | (refine underG_some ?_; intro hgd; conv at hgd => whnf)); (first | refine And.intro (srcObl_rs rfl ?_) ?_ | refine And.intro srcObl_sl ?_ | refine And.intro srcObl_nsl ?_ | skip); (all_goals (try simp only [underG, true_and, and_true, Bool.cond_true_left, Bool.cond_false_left, Bool.cond_true_right, Bool.cond_false_right, Bool.or_eq_true, Bool.and_eq_true, Bool.or_eq_false_iff, Bool.and_eq_false_iff, cond_true, cond_false, Bool.not_eq_eq_eq_not, Bool.not_true, Bool.not_false, decide_eq_true_eq, decide_eq_false_iff_not, Int.toNat_natCast, Nat.zero_add, Decidable.not_not, maxL] at *)); all_goals omega)))
    · rw [if_pos hb] at hbs
      rename_i hlt
      refine ⟨i + 1, by simp only [underG, true_and, and_true, Bool.cond_true_left, Bool.cond_false_left, Bool.cond_true_right, Bool.cond_false_right, Bool.or_eq_true, Bool.and_eq_true, Bool.or_eq_false_iff, Bool.and_eq_false_iff, cond_true, cond_false, Bool.not_eq_eq_eq_not, Bool.not_true, Bool.not_false, decide_eq_true_eq, decide_eq_false_iff_not, Int.toNat_natCast, Nat.zero_add, Decidable.not_not, maxL] at *; omega, by simp only [underG, true_and, and_true, Bool.cond_true_left, Bool.cond_false_left, Bool.cond_true_right, Bool.cond_false_right, Bool.or_eq_true, Bool.and_eq_true, Bool.or_eq_false_iff, Bool.and_eq_false_iff, cond_true, cond_false, Bool.not_eq_eq_eq_not, Bool.not_true, Bool.not_false, decide_eq_true_eq, decide_eq_false_iff_not, Int.toNat_natCast, Nat.zero_add, Decidable.not_not, maxL] at *; omega, ?_⟩
      refine Weak.list [((2, 0, 0), .old (2, 0, 0), fbox F), ((5, 9, 0), .old (21, 0, 0), irow (beforeTo F n (i + 1)).length (beforeTo F n (i + 1)))] rfl (by rfl) ?_ ?_
      · ((repeat' first | exact TLes.nil | refine TLes.cons (TLe.eq rfl) ?_ | refine TLes.cons (TLe.nilL rfl ?_) ?_ | refine TLes.cons (TLe.rsL rfl ?_) ?_ | refine TLes.cons (TLe.int ?_) ?_ | refine TLes.cons (TLe.bool ?_) ?_); (all_goals first | rfl | ((try (simp only [underG, true_and, and_true, Bool.cond_true_left, Bool.cond_false_left, Bool.cond_true_right, Bool.cond_false_right, Bool.or_eq_true, Bool.and_eq_true, Bool.or_eq_false_iff, Bool.and_eq_false_iff, cond_true, cond_false, Bool.not_eq_eq_eq_not, Bool.not_true, Bool.not_false, decide_eq_true_eq, decide_eq_false_iff_not, Int.toNat_natCast, Nat.zero_add, Decidable.not_not, maxL] at *)); first | omega | (rw [wrap64 (by omega) (by omega)]; first | rfl | omega | (simp; done) | (simp; omega))) | skip))
        rw [hbs]; simp
      · refine .old rfl (BLe.refl _) (.old rfl (BLe.row (by rw [hbs]; simp) (fun x hx => ?_)) .nil)
        rw [hbs]

        exact app_gen (fun n => [iv n]) 0 1 rfl hx
    · rw [if_neg (by rw [hb]; simp)] at hbs
      rename_i hlt
      refine ⟨i + 1, by simp only [underG, true_and, and_true, Bool.cond_true_left, Bool.cond_false_left, Bool.cond_true_right, Bool.cond_false_right, Bool.or_eq_true, Bool.and_eq_true, Bool.or_eq_false_iff, Bool.and_eq_false_iff, cond_true, cond_false, Bool.not_eq_eq_eq_not, Bool.not_true, Bool.not_false, decide_eq_true_eq, decide_eq_false_iff_not, Int.toNat_natCast, Nat.zero_add, Decidable.not_not, maxL] at *; omega, by simp only [underG, true_and, and_true, Bool.cond_true_left, Bool.cond_false_left, Bool.cond_true_right, Bool.cond_false_right, Bool.or_eq_true, Bool.and_eq_true, Bool.or_eq_false_iff, Bool.and_eq_false_iff, cond_true, cond_false, Bool.not_eq_eq_eq_not, Bool.not_true, Bool.not_false, decide_eq_true_eq, decide_eq_false_iff_not, Int.toNat_natCast, Nat.zero_add, Decidable.not_not, maxL] at *; omega, ?_⟩
      rw [hbs]
      refine Weak.list [((2, 0, 0), .old (2, 0, 0), fbox F), ((5, 9, 0), .old (5, 9, 0), irow (beforeTo F n i).length (beforeTo F n i))] rfl (by rfl) ?_ (.old rfl (BLe.refl _) (.old rfl (BLe.refl _) .nil))
      ((repeat' first | exact TLes.nil | refine TLes.cons (TLe.eq rfl) ?_ | refine TLes.cons (TLe.nilL rfl ?_) ?_ | refine TLes.cons (TLe.rsL rfl ?_) ?_ | refine TLes.cons (TLe.int ?_) ?_ | refine TLes.cons (TLe.bool ?_) ?_); (all_goals first | rfl | ((try (simp only [underG, true_and, and_true, Bool.cond_true_left, Bool.cond_false_left, Bool.cond_true_right, Bool.cond_false_right, Bool.or_eq_true, Bool.and_eq_true, Bool.or_eq_false_iff, Bool.and_eq_false_iff, cond_true, cond_false, Bool.not_eq_eq_eq_not, Bool.not_true, Bool.not_false, decide_eq_true_eq, decide_eq_false_iff_not, Int.toNat_natCast, Nat.zero_add, Decidable.not_not, maxL] at *)); first | omega | (rw [wrap64 (by omega) (by omega)]; first | rfl | omega | (simp; done) | (simp; omega))) | skip))
  · have e : i = F.blocks.length := by simp only [underG, true_and, and_true, Bool.cond_true_left, Bool.cond_false_left, Bool.cond_true_right, Bool.cond_false_right, Bool.or_eq_true, Bool.and_eq_true, Bool.or_eq_false_iff, Bool.and_eq_false_iff, cond_true, cond_false, Bool.not_eq_eq_eq_not, Bool.not_true, Bool.not_false, decide_eq_true_eq, decide_eq_false_iff_not, Int.toNat_natCast, Nat.zero_add, Decidable.not_not, maxL] at *; omega
    subst e
    exact ⟨_, rfl, RelO.rs rfl (Nat.le_refl _) rfl (fun _ _ => rfl)⟩
end Go.Proofs.Ytmkiahbnfmpieaa
namespace Go.Proofs.Ytmkiahbnfmpieaa
open Go Dv
set_option maxRecDepth 10000
set_option linter.unusedSimpArgs false
def nxt1 (e : End) : List Int := if e.kind = 2 ∨ e.kind = 3 ∨ e.kind = 4 then [e.to] else []
def nxt2 (e : End) : List Int := if e.kind = 3 then nxt1 e ++ [e.els] else nxt1 e
def nxt3 (e : End) : List Int := if e.kind = 4 then nxt2 e ++ [e.pad] else nxt2 e
theorem nxt3_eq (b : Block) : nxt3 b.fin = nxt b := by
  unfold nxt3 nxt2 nxt1 nxt goals
  by_cases h2 : b.fin.kind = 2
  · simp [h2]
  · by_cases h3 : b.fin.kind = 3
    · simp [h3]
    · by_cases h4 : b.fin.kind = 4
      · simp [h4]
      · simp [h2, h3, h4]
theorem nxt_len (b : Block) : (nxt b).length ≤ 3 := by
  have := goals_len b
  unfold nxt; split
  · simp; omega
  · omega
theorem kept_len (p : Int → Bool) (l : List Int) : (kept p l).length ≤ l.length := List.length_filter_le _ _
theorem fc18 (F : Func) (n : Int) : FC Try.prog 18 [.agg (encFunc F), iv n] (ints (next F n)) := by
  refine FC_intro tok Try.func18 rfl (by decide +kernel) (Nat.le_of_ble_eq_true rfl) ?_
  refine AWp_facts 0 (fun hl => ?_)
  have hl0 : F.blocks.length ≤ maxL := hl.2.2.1.1
  ((repeat' first | refine AWp_seq ?_ | (refine AWp_reg tok (by rfl) ?_; conv => whnf) | (refine AWp_any tok mix (by rfl) ?_; conv => whnf) | refine AWp_block ?_ | (refine AWp_skip ?_; conv => whnf) | (refine AWp_exit ?_; conv => whnf) | (refine AWp_ret ?_; conv => whnf) | (refine @And.intro (underG _ _ _ _) _ ?_ ?_; rotate_left; (conv => whnf); rotate_right) | (refine fun (bn : Bool) (hbn : (0 < _ → bn = _)) => ?_; conv => whnf)); all_goals (try ((first | refine underG_none ?_ | (refine underG_some ?_; intro hgd; conv at hgd => whnf)); (first | refine And.intro (srcObl_rs rfl ?_) ?_ | refine And.intro srcObl_sl ?_ | refine And.intro srcObl_nsl ?_ | skip); (all_goals (try simp only [underG, true_and, and_true, Bool.cond_true_left, Bool.cond_false_left, Bool.cond_true_right, Bool.cond_false_right, Bool.or_eq_true, Bool.and_eq_true, Bool.or_eq_false_iff, Bool.and_eq_false_iff, cond_true, cond_false, Bool.not_eq_eq_eq_not, Bool.not_true, Bool.not_false, decide_eq_true_eq, decide_eq_false_iff_not, Int.toNat_natCast, Nat.zero_add, Decidable.not_not, maxL] at *)); all_goals omega)))
  refine AWp_cond rfl (fun hb => ?_) (fun hb => ?_)
  · ((repeat' first | refine AWp_seq ?_ | (refine AWp_reg tok (by rfl) ?_; conv => whnf) | (refine AWp_any tok mix (by rfl) ?_; conv => whnf) | refine AWp_block ?_ | (refine AWp_skip ?_; conv => whnf) | (refine AWp_exit ?_; conv => whnf) | (refine AWp_ret ?_; conv => whnf) | refine AWp_cond rfl (fun hb => ?_) (fun hb => ?_) | (refine @And.intro (underG _ _ _ _) _ ?_ ?_; rotate_left; (conv => whnf); rotate_right) | (refine fun (bn : Bool) (hbn : (0 < _ → bn = _)) => ?_; conv => whnf)); all_goals (try ((first | refine underG_none ?_ | (refine underG_some ?_; intro hgd; conv at hgd => whnf)); (first | refine And.intro (srcObl_rs rfl ?_) ?_ | refine And.intro srcObl_sl ?_ | refine And.intro srcObl_nsl ?_ | skip); (all_goals (try simp only [underG, true_and, and_true, Bool.cond_true_left, Bool.cond_false_left, Bool.cond_true_right, Bool.cond_false_right, Bool.or_eq_true, Bool.and_eq_true, Bool.or_eq_false_iff, Bool.and_eq_false_iff, cond_true, cond_false, Bool.not_eq_eq_eq_not, Bool.not_true, Bool.not_false, decide_eq_true_eq, decide_eq_false_iff_not, Int.toNat_natCast, Nat.zero_add, Decidable.not_not, maxL] at *)); all_goals omega)))
    refine ⟨_, rfl, Rel.nsl' ?_⟩
    have : next F n = [] := by
      simp only [underG, true_and, and_true, Bool.cond_true_left, Bool.cond_false_left, Bool.cond_true_right, Bool.cond_false_right, Bool.or_eq_true, Bool.and_eq_true, Bool.or_eq_false_iff, Bool.and_eq_false_iff, cond_true, cond_false, Bool.not_eq_eq_eq_not, Bool.not_true, Bool.not_false, decide_eq_true_eq, decide_eq_false_iff_not, Int.toNat_natCast, Nat.zero_add, Decidable.not_not, maxL] at *
      unfold next isIn
      rw [if_neg]
      intro h; simp only [underG, true_and, and_true, Bool.cond_true_left, Bool.cond_false_left, Bool.cond_true_right, Bool.cond_false_right, Bool.or_eq_true, Bool.and_eq_true, Bool.or_eq_false_iff, Bool.and_eq_false_iff, cond_true, cond_false, Bool.not_eq_eq_eq_not, Bool.not_true, Bool.not_false, decide_eq_true_eq, decide_eq_false_iff_not, Int.toNat_natCast, Nat.zero_add, Decidable.not_not, maxL] at *; omega
    rw [this]; rfl
  have hin : 0 ≤ n ∧ n < F.blocks.length := by
    simp only [underG, true_and, and_true, Bool.cond_true_left, Bool.cond_false_left, Bool.cond_true_right, Bool.cond_false_right, Bool.or_eq_true, Bool.and_eq_true, Bool.or_eq_false_iff, Bool.and_eq_false_iff, cond_true, cond_false, Bool.not_eq_eq_eq_not, Bool.not_true, Bool.not_false, decide_eq_true_eq, decide_eq_false_iff_not, Int.toNat_natCast, Nat.zero_add, Decidable.not_not, maxL] at *
    omega
  obtain ⟨k, rfl⟩ : ∃ k : Nat, n = k := ⟨n.toNat, by omega⟩
  have hnx : next F k = kept (fun k => !isIn F k) (nxt3 (F.blocks.getD k default).fin) := by
    unfold next; rw [if_pos (by simp [isIn]; omega), nxt3_eq]; rfl
  have hlen : (nxt3 (F.blocks.getD k default).fin).length ≤ 3 := by rw [nxt3_eq]; exact nxt_len _
  ((repeat' first | refine AWp_seq ?_ | (refine AWp_reg tok (by rfl) ?_; conv => whnf) | (refine AWp_any tok mix (by rfl) ?_; conv => whnf) | refine AWp_block ?_ | (refine AWp_skip ?_; conv => whnf) | (refine AWp_exit ?_; conv => whnf) | (refine AWp_ret ?_; conv => whnf) | (refine @And.intro (underG _ _ _ _) _ ?_ ?_; rotate_left; (conv => whnf); rotate_right) | (refine fun (bn : Bool) (hbn : (0 < _ → bn = _)) => ?_; conv => whnf)); all_goals (try ((first | refine underG_none ?_ | (refine underG_some ?_; intro hgd; conv at hgd => whnf)); (first | refine And.intro (srcObl_rs rfl ?_) ?_ | refine And.intro srcObl_sl ?_ | refine And.intro srcObl_nsl ?_ | skip); (all_goals (try simp only [underG, true_and, and_true, Bool.cond_true_left, Bool.cond_false_left, Bool.cond_true_right, Bool.cond_false_right, Bool.or_eq_true, Bool.and_eq_true, Bool.or_eq_false_iff, Bool.and_eq_false_iff, cond_true, cond_false, Bool.not_eq_eq_eq_not, Bool.not_true, Bool.not_false, decide_eq_true_eq, decide_eq_false_iff_not, Int.toNat_natCast, Nat.zero_add, Decidable.not_not, maxL] at *)); all_goals omega)))
  refine AWp_meet (fun l : List Int => mkS [(1, iv k), (2, .bp (2, 0, 0) 0), (5, .bp (5, 0, 0) 0), (6, .rs (6, 9, 0) 1 0 l.length)] [((2, 0, 0), fbox F), ((5, 0, 0), .row true 8 1 (fun _ => encEnd (F.blocks.getD k default).fin)), ((6, 9, 0), irow l.length l)])
    (fun l => l = nxt1 (F.blocks.getD k default).fin) ?_ ?_
  · ((repeat' first | refine AWp_seq ?_ | (refine AWp_reg tok (by rfl) ?_; conv => whnf) | (refine AWp_any tok mix (by rfl) ?_; conv => whnf) | refine AWp_block ?_ | (refine AWp_skip ?_; conv => whnf) | (refine AWp_exit ?_; conv => whnf) | (refine AWp_ret ?_; conv => whnf) | refine AWp_cond rfl (fun hb => ?_) (fun hb => ?_) | (refine @And.intro (underG _ _ _ _) _ ?_ ?_; rotate_left; (conv => whnf); rotate_right) | (refine fun (bn : Bool) (hbn : (0 < _ → bn = _)) => ?_; conv => whnf)); all_goals (try ((first | refine underG_none ?_ | (refine underG_some ?_; intro hgd; conv at hgd => whnf)); (first | refine And.intro (srcObl_rs rfl ?_) ?_ | refine And.intro srcObl_sl ?_ | refine And.intro srcObl_nsl ?_ | skip); (all_goals (try simp only [underG, true_and, and_true, Bool.cond_true_left, Bool.cond_false_left, Bool.cond_true_right, Bool.cond_false_right, Bool.or_eq_true, Bool.and_eq_true, Bool.or_eq_false_iff, Bool.and_eq_false_iff, cond_true, cond_false, Bool.not_eq_eq_eq_not, Bool.not_true, Bool.not_false, decide_eq_true_eq, decide_eq_false_iff_not, Int.toNat_natCast, Nat.zero_add, Decidable.not_not, maxL] at *)); all_goals omega)))
    · have hk : (F.blocks.getD k default).fin.kind = 2 ∨ (F.blocks.getD k default).fin.kind = 3 ∨ (F.blocks.getD k default).fin.kind = 4 := by simp only [underG, true_and, and_true, Bool.cond_true_left, Bool.cond_false_left, Bool.cond_true_right, Bool.cond_false_right, Bool.or_eq_true, Bool.and_eq_true, Bool.or_eq_false_iff, Bool.and_eq_false_iff, cond_true, cond_false, Bool.not_eq_eq_eq_not, Bool.not_true, Bool.not_false, decide_eq_true_eq, decide_eq_false_iff_not, Int.toNat_natCast, Nat.zero_add, Decidable.not_not, maxL] at *; omega
      have e : nxt1 (F.blocks.getD k default).fin = [(F.blocks.getD k default).fin.to] := by unfold nxt1; rw [if_pos hk]
      refine ⟨_, rfl, ?_⟩
      rw [e]
      refine Weak.list [((2, 0, 0), .old (2, 0, 0), fbox F), ((5, 0, 0), .old (5, 0, 0), .row true 8 1 (fun _ => encEnd (F.blocks.getD k default).fin)), ((6, 9, 0), .old (41, 0, 0), irow ([(F.blocks.getD k default).fin.to]).length ([(F.blocks.getD k default).fin.to]))] rfl (by rfl) ?_ (.old rfl (BLe.refl _) (.old rfl (BLe.row rfl (fun x hx => by match x, hx with | 0, _ => rfl)) (.old rfl (BLe.row rfl (fun x hx => by match x, hx with | 0, _ => rfl)) .nil)))
      ((repeat' first | exact TLes.nil | refine TLes.cons (TLe.eq rfl) ?_ | refine TLes.cons (TLe.nilL rfl ?_) ?_ | refine TLes.cons (TLe.rsL rfl ?_) ?_ | refine TLes.cons (TLe.int ?_) ?_ | refine TLes.cons (TLe.bool ?_) ?_); (all_goals first | rfl | ((try (simp only [underG, true_and, and_true, Bool.cond_true_left, Bool.cond_false_left, Bool.cond_true_right, Bool.cond_false_right, Bool.or_eq_true, Bool.and_eq_true, Bool.or_eq_false_iff, Bool.and_eq_false_iff, cond_true, cond_false, Bool.not_eq_eq_eq_not, Bool.not_true, Bool.not_false, decide_eq_true_eq, decide_eq_false_iff_not, Int.toNat_natCast, Nat.zero_add, Decidable.not_not, maxL] at *)); first | omega | (rw [wrap64 (by omega) (by omega)]; first | rfl | omega | (simp; done) | (simp; omega))) | skip))
    · have hk : ¬ ((F.blocks.getD k default).fin.kind = 2 ∨ (F.blocks.getD k default).fin.kind = 3 ∨ (F.blocks.getD k default).fin.kind = 4) := by simp only [underG, true_and, and_true, Bool.cond_true_left, Bool.cond_false_left, Bool.cond_true_right, Bool.cond_false_right, Bool.or_eq_true, Bool.and_eq_true, Bool.or_eq_false_iff, Bool.and_eq_false_iff, cond_true, cond_false, Bool.not_eq_eq_eq_not, Bool.not_true, Bool.not_false, decide_eq_true_eq, decide_eq_false_iff_not, Int.toNat_natCast, Nat.zero_add, Decidable.not_not, maxL] at *; omega
      have e : nxt1 (F.blocks.getD k default).fin = [] := by unfold nxt1; rw [if_neg hk]
      refine ⟨_, rfl, ?_⟩
      rw [e]
      refine Weak.list [((2, 0, 0), .old (2, 0, 0), fbox F), ((5, 0, 0), .old (5, 0, 0), .row true 8 1 (fun _ => encEnd (F.blocks.getD k default).fin)), ((6, 9, 0), .nil, irow (([] : List Int)).length (([] : List Int)))] rfl (by rfl) ?_ (.old rfl (BLe.refl _) (.old rfl (BLe.row rfl (fun x hx => by match x, hx with | 0, _ => rfl)) (.new .nil)))
      ((repeat' first | exact TLes.nil | refine TLes.cons (TLe.eq rfl) ?_ | refine TLes.cons (TLe.nilL rfl ?_) ?_ | refine TLes.cons (TLe.rsL rfl ?_) ?_ | refine TLes.cons (TLe.int ?_) ?_ | refine TLes.cons (TLe.bool ?_) ?_); (all_goals first | rfl | ((try (simp only [underG, true_and, and_true, Bool.cond_true_left, Bool.cond_false_left, Bool.cond_true_right, Bool.cond_false_right, Bool.or_eq_true, Bool.and_eq_true, Bool.or_eq_false_iff, Bool.and_eq_false_iff, cond_true, cond_false, Bool.not_eq_eq_eq_not, Bool.not_true, Bool.not_false, decide_eq_true_eq, decide_eq_false_iff_not, Int.toNat_natCast, Nat.zero_add, Decidable.not_not, maxL] at *)); first | omega | (rw [wrap64 (by omega) (by omega)]; first | rfl | omega | (simp; done) | (simp; omega))) | skip))
  have hl1 : (nxt1 (F.blocks.getD k default).fin).length ≤ 1 := by unfold nxt1; split <;> simp
  have hl2 : (nxt2 (F.blocks.getD k default).fin).length ≤ 2 := by unfold nxt2; split <;> (try simp only [List.length_append, List.length_cons, List.length_nil]) <;> omega
  intro l hl τ hτ
  refine AWp_weak hτ ?_
  subst hl
  ((repeat' first | refine AWp_seq ?_ | (refine AWp_reg tok (by rfl) ?_; conv => whnf) | (refine AWp_any tok mix (by rfl) ?_; conv => whnf) | refine AWp_block ?_ | (refine AWp_skip ?_; conv => whnf) | (refine AWp_exit ?_; conv => whnf) | (refine AWp_ret ?_; conv => whnf) | (refine @And.intro (underG _ _ _ _) _ ?_ ?_; rotate_left; (conv => whnf); rotate_right) | (refine fun (bn : Bool) (hbn : (0 < _ → bn = _)) => ?_; conv => whnf)); all_goals (try ((first | refine underG_none ?_ | (refine underG_some ?_; intro hgd; conv at hgd => whnf)); (first | refine And.intro (srcObl_rs rfl ?_) ?_ | refine And.intro srcObl_sl ?_ | refine And.intro srcObl_nsl ?_ | skip); (all_goals (try simp only [underG, true_and, and_true, Bool.cond_true_left, Bool.cond_false_left, Bool.cond_true_right, Bool.cond_false_right, Bool.or_eq_true, Bool.and_eq_true, Bool.or_eq_false_iff, Bool.and_eq_false_iff, cond_true, cond_false, Bool.not_eq_eq_eq_not, Bool.not_true, Bool.not_false, decide_eq_true_eq, decide_eq_false_iff_not, Int.toNat_natCast, Nat.zero_add, Decidable.not_not, maxL] at *)); all_goals omega)))
  refine AWp_meet (fun l : List Int => mkS [(1, iv k), (2, .bp (2, 0, 0) 0), (5, .bp (5, 0, 0) 0), (6, .rs (6, 9, 0) 1 0 l.length)] [((2, 0, 0), fbox F), ((5, 0, 0), .row true 8 1 (fun _ => encEnd (F.blocks.getD k default).fin)), ((6, 9, 0), irow l.length l)])
    (fun l => l = nxt2 (F.blocks.getD k default).fin) (by
  ((repeat' first | refine AWp_seq ?_ | (refine AWp_reg tok (by rfl) ?_; conv => whnf) | (refine AWp_any tok mix (by rfl) ?_; conv => whnf) | refine AWp_block ?_ | (refine AWp_skip ?_; conv => whnf) | (refine AWp_exit ?_; conv => whnf) | (refine AWp_ret ?_; conv => whnf) | refine AWp_cond rfl (fun hb => ?_) (fun hb => ?_) | (refine @And.intro (underG _ _ _ _) _ ?_ ?_; rotate_left; (conv => whnf); rotate_right) | (refine fun (bn : Bool) (hbn : (0 < _ → bn = _)) => ?_; conv => whnf)); all_goals (try ((first | refine underG_none ?_ | (refine underG_some ?_; intro hgd; conv at hgd => whnf)); (first | refine And.intro (srcObl_rs rfl ?_) ?_ | refine And.intro srcObl_sl ?_ | refine And.intro srcObl_nsl ?_ | skip); (all_goals (try simp only [underG, true_and, and_true, Bool.cond_true_left, Bool.cond_false_left, Bool.cond_true_right, Bool.cond_false_right, Bool.or_eq_true, Bool.and_eq_true, Bool.or_eq_false_iff, Bool.and_eq_false_iff, cond_true, cond_false, Bool.not_eq_eq_eq_not, Bool.not_true, Bool.not_false, decide_eq_true_eq, decide_eq_false_iff_not, Int.toNat_natCast, Nat.zero_add, Decidable.not_not, maxL] at *)); all_goals omega)))
  · have hk : (F.blocks.getD k default).fin.kind = 3 := by simp only [underG, true_and, and_true, Bool.cond_true_left, Bool.cond_false_left, Bool.cond_true_right, Bool.cond_false_right, Bool.or_eq_true, Bool.and_eq_true, Bool.or_eq_false_iff, Bool.and_eq_false_iff, cond_true, cond_false, Bool.not_eq_eq_eq_not, Bool.not_true, Bool.not_false, decide_eq_true_eq, decide_eq_false_iff_not, Int.toNat_natCast, Nat.zero_add, Decidable.not_not, maxL] at *; exact hb
    have e : nxt2 (F.blocks.getD k default).fin = nxt1 (F.blocks.getD k default).fin ++ [(F.blocks.getD k default).fin.els] := by unfold nxt2; rw [if_pos hk]
    refine ⟨_, rfl, ?_⟩
    rw [e]
    refine Weak.list [((2, 0, 0), .old (2, 0, 0), fbox F), ((5, 0, 0), .old (5, 0, 0), .row true 8 1 (fun _ => encEnd (F.blocks.getD k default).fin)), ((6, 9, 0), .old (49, 0, 0), irow (nxt1 (F.blocks.getD k default).fin ++ [(F.blocks.getD k default).fin.els]).length (nxt1 (F.blocks.getD k default).fin ++ [(F.blocks.getD k default).fin.els]))] rfl (by rfl) ?_ (.old rfl (BLe.refl _) (.old rfl (BLe.refl _) (.old rfl (BLe.row (by simp) (fun x hx => app_gen (fun n => [iv n]) 0 1 rfl hx)) .nil)))
    ((repeat' first | exact TLes.nil | refine TLes.cons (TLe.eq rfl) ?_ | refine TLes.cons (TLe.nilL rfl ?_) ?_ | refine TLes.cons (TLe.rsL rfl ?_) ?_ | refine TLes.cons (TLe.int ?_) ?_ | refine TLes.cons (TLe.bool ?_) ?_); (all_goals first | rfl | ((try (simp only [underG, true_and, and_true, Bool.cond_true_left, Bool.cond_false_left, Bool.cond_true_right, Bool.cond_false_right, Bool.or_eq_true, Bool.and_eq_true, Bool.or_eq_false_iff, Bool.and_eq_false_iff, cond_true, cond_false, Bool.not_eq_eq_eq_not, Bool.not_true, Bool.not_false, decide_eq_true_eq, decide_eq_false_iff_not, Int.toNat_natCast, Nat.zero_add, Decidable.not_not, maxL] at *)); first | omega | (rw [wrap64 (by omega) (by omega)]; first | rfl | omega | (simp; done) | (simp; omega))) | skip))
    simp
  · have hk : ¬ (F.blocks.getD k default).fin.kind = 3 := by simp only [underG, true_and, and_true, Bool.cond_true_left, Bool.cond_false_left, Bool.cond_true_right, Bool.cond_false_right, Bool.or_eq_true, Bool.and_eq_true, Bool.or_eq_false_iff, Bool.and_eq_false_iff, cond_true, cond_false, Bool.not_eq_eq_eq_not, Bool.not_true, Bool.not_false, decide_eq_true_eq, decide_eq_false_iff_not, Int.toNat_natCast, Nat.zero_add, Decidable.not_not, maxL] at *; exact hb
    have e : nxt2 (F.blocks.getD k default).fin = nxt1 (F.blocks.getD k default).fin := by unfold nxt2; rw [if_neg hk]
    refine ⟨_, rfl, ?_⟩
    rw [e]
    refine Weak.list [((2, 0, 0), .old (2, 0, 0), fbox F), ((5, 0, 0), .old (5, 0, 0), .row true 8 1 (fun _ => encEnd (F.blocks.getD k default).fin)), ((6, 9, 0), .old (6, 9, 0), irow (nxt1 (F.blocks.getD k default).fin).length (nxt1 (F.blocks.getD k default).fin))] rfl (by rfl) ?_ (.old rfl (BLe.refl _) (.old rfl (BLe.refl _) (.old rfl (BLe.refl _) .nil)))
    ((repeat' first | exact TLes.nil | refine TLes.cons (TLe.eq rfl) ?_ | refine TLes.cons (TLe.nilL rfl ?_) ?_ | refine TLes.cons (TLe.rsL rfl ?_) ?_ | refine TLes.cons (TLe.int ?_) ?_ | refine TLes.cons (TLe.bool ?_) ?_); (all_goals first | rfl | ((try (simp only [underG, true_and, and_true, Bool.cond_true_left, Bool.cond_false_left, Bool.cond_true_right, Bool.cond_false_right, Bool.or_eq_true, Bool.and_eq_true, Bool.or_eq_false_iff, Bool.and_eq_false_iff, cond_true, cond_false, Bool.not_eq_eq_eq_not, Bool.not_true, Bool.not_false, decide_eq_true_eq, decide_eq_false_iff_not, Int.toNat_natCast, Nat.zero_add, Decidable.not_not, maxL] at *)); first | omega | (rw [wrap64 (by omega) (by omega)]; first | rfl | omega | (simp; done) | (simp; omega))) | skip))
  ) ?_
  intro l hl τ hτ
  refine AWp_weak hτ ?_
  subst hl
  ((repeat' first | refine AWp_seq ?_ | (refine AWp_reg tok (by rfl) ?_; conv => whnf) | (refine AWp_any tok mix (by rfl) ?_; conv => whnf) | refine AWp_block ?_ | (refine AWp_skip ?_; conv => whnf) | (refine AWp_exit ?_; conv => whnf) | (refine AWp_ret ?_; conv => whnf) | (refine @And.intro (underG _ _ _ _) _ ?_ ?_; rotate_left; (conv => whnf); rotate_right) | (refine fun (bn : Bool) (hbn : (0 < _ → bn = _)) => ?_; conv => whnf)); all_goals (try ((first | refine underG_none ?_ | (refine underG_some ?_; intro hgd; conv at hgd => whnf)); (first | refine And.intro (srcObl_rs rfl ?_) ?_ | refine And.intro srcObl_sl ?_ | refine And.intro srcObl_nsl ?_ | skip); (all_goals (try simp only [underG, true_and, and_true, Bool.cond_true_left, Bool.cond_false_left, Bool.cond_true_right, Bool.cond_false_right, Bool.or_eq_true, Bool.and_eq_true, Bool.or_eq_false_iff, Bool.and_eq_false_iff, cond_true, cond_false, Bool.not_eq_eq_eq_not, Bool.not_true, Bool.not_false, decide_eq_true_eq, decide_eq_false_iff_not, Int.toNat_natCast, Nat.zero_add, Decidable.not_not, maxL] at *)); all_goals omega)))
  refine AWp_meet (fun l : List Int => mkS [(1, iv k), (2, .bp (2, 0, 0) 0), (5, .bp (5, 0, 0) 0), (6, .rs (6, 9, 0) 1 0 l.length)] [((2, 0, 0), fbox F), ((5, 0, 0), .row true 8 1 (fun _ => encEnd (F.blocks.getD k default).fin)), ((6, 9, 0), irow l.length l)])
    (fun l => l = nxt3 (F.blocks.getD k default).fin) (by
  ((repeat' first | refine AWp_seq ?_ | (refine AWp_reg tok (by rfl) ?_; conv => whnf) | (refine AWp_any tok mix (by rfl) ?_; conv => whnf) | refine AWp_block ?_ | (refine AWp_skip ?_; conv => whnf) | (refine AWp_exit ?_; conv => whnf) | (refine AWp_ret ?_; conv => whnf) | refine AWp_cond rfl (fun hb => ?_) (fun hb => ?_) | (refine @And.intro (underG _ _ _ _) _ ?_ ?_; rotate_left; (conv => whnf); rotate_right) | (refine fun (bn : Bool) (hbn : (0 < _ → bn = _)) => ?_; conv => whnf)); all_goals (try ((first | refine underG_none ?_ | (refine underG_some ?_; intro hgd; conv at hgd => whnf)); (first | refine And.intro (srcObl_rs rfl ?_) ?_ | refine And.intro srcObl_sl ?_ | refine And.intro srcObl_nsl ?_ | skip); (all_goals (try simp only [underG, true_and, and_true, Bool.cond_true_left, Bool.cond_false_left, Bool.cond_true_right, Bool.cond_false_right, Bool.or_eq_true, Bool.and_eq_true, Bool.or_eq_false_iff, Bool.and_eq_false_iff, cond_true, cond_false, Bool.not_eq_eq_eq_not, Bool.not_true, Bool.not_false, decide_eq_true_eq, decide_eq_false_iff_not, Int.toNat_natCast, Nat.zero_add, Decidable.not_not, maxL] at *)); all_goals omega)))
  · have hk : (F.blocks.getD k default).fin.kind = 4 := by simp only [underG, true_and, and_true, Bool.cond_true_left, Bool.cond_false_left, Bool.cond_true_right, Bool.cond_false_right, Bool.or_eq_true, Bool.and_eq_true, Bool.or_eq_false_iff, Bool.and_eq_false_iff, cond_true, cond_false, Bool.not_eq_eq_eq_not, Bool.not_true, Bool.not_false, decide_eq_true_eq, decide_eq_false_iff_not, Int.toNat_natCast, Nat.zero_add, Decidable.not_not, maxL] at *; exact hb
    have e : nxt3 (F.blocks.getD k default).fin = nxt2 (F.blocks.getD k default).fin ++ [(F.blocks.getD k default).fin.pad] := by unfold nxt3; rw [if_pos hk]
    refine ⟨_, rfl, ?_⟩
    rw [e]
    refine Weak.list [((2, 0, 0), .old (2, 0, 0), fbox F), ((5, 0, 0), .old (5, 0, 0), .row true 8 1 (fun _ => encEnd (F.blocks.getD k default).fin)), ((6, 9, 0), .old (57, 0, 0), irow (nxt2 (F.blocks.getD k default).fin ++ [(F.blocks.getD k default).fin.pad]).length (nxt2 (F.blocks.getD k default).fin ++ [(F.blocks.getD k default).fin.pad]))] rfl (by rfl) ?_ (.old rfl (BLe.refl _) (.old rfl (BLe.refl _) (.old rfl (BLe.row (by simp) (fun x hx => app_gen (fun n => [iv n]) 0 1 rfl hx)) .nil)))
    ((repeat' first | exact TLes.nil | refine TLes.cons (TLe.eq rfl) ?_ | refine TLes.cons (TLe.nilL rfl ?_) ?_ | refine TLes.cons (TLe.rsL rfl ?_) ?_ | refine TLes.cons (TLe.int ?_) ?_ | refine TLes.cons (TLe.bool ?_) ?_); (all_goals first | rfl | ((try (simp only [underG, true_and, and_true, Bool.cond_true_left, Bool.cond_false_left, Bool.cond_true_right, Bool.cond_false_right, Bool.or_eq_true, Bool.and_eq_true, Bool.or_eq_false_iff, Bool.and_eq_false_iff, cond_true, cond_false, Bool.not_eq_eq_eq_not, Bool.not_true, Bool.not_false, decide_eq_true_eq, decide_eq_false_iff_not, Int.toNat_natCast, Nat.zero_add, Decidable.not_not, maxL] at *)); first | omega | (rw [wrap64 (by omega) (by omega)]; first | rfl | omega | (simp; done) | (simp; omega))) | skip))
    simp
  · have hk : ¬ (F.blocks.getD k default).fin.kind = 4 := by simp only [underG, true_and, and_true, Bool.cond_true_left, Bool.cond_false_left, Bool.cond_true_right, Bool.cond_false_right, Bool.or_eq_true, Bool.and_eq_true, Bool.or_eq_false_iff, Bool.and_eq_false_iff, cond_true, cond_false, Bool.not_eq_eq_eq_not, Bool.not_true, Bool.not_false, decide_eq_true_eq, decide_eq_false_iff_not, Int.toNat_natCast, Nat.zero_add, Decidable.not_not, maxL] at *; exact hb
    have e : nxt3 (F.blocks.getD k default).fin = nxt2 (F.blocks.getD k default).fin := by unfold nxt3; rw [if_neg hk]
    refine ⟨_, rfl, ?_⟩
    rw [e]
    refine Weak.list [((2, 0, 0), .old (2, 0, 0), fbox F), ((5, 0, 0), .old (5, 0, 0), .row true 8 1 (fun _ => encEnd (F.blocks.getD k default).fin)), ((6, 9, 0), .old (6, 9, 0), irow (nxt2 (F.blocks.getD k default).fin).length (nxt2 (F.blocks.getD k default).fin))] rfl (by rfl) ?_ (.old rfl (BLe.refl _) (.old rfl (BLe.refl _) (.old rfl (BLe.refl _) .nil)))
    ((repeat' first | exact TLes.nil | refine TLes.cons (TLe.eq rfl) ?_ | refine TLes.cons (TLe.nilL rfl ?_) ?_ | refine TLes.cons (TLe.rsL rfl ?_) ?_ | refine TLes.cons (TLe.int ?_) ?_ | refine TLes.cons (TLe.bool ?_) ?_); (all_goals first | rfl | ((try (simp only [underG, true_and, and_true, Bool.cond_true_left, Bool.cond_false_left, Bool.cond_true_right, Bool.cond_false_right, Bool.or_eq_true, Bool.and_eq_true, Bool.or_eq_false_iff, Bool.and_eq_false_iff, cond_true, cond_false, Bool.not_eq_eq_eq_not, Bool.not_true, Bool.not_false, decide_eq_true_eq, decide_eq_false_iff_not, Int.toNat_natCast, Nat.zero_add, Decidable.not_not, maxL] at *)); first | omega | (rw [wrap64 (by omega) (by omega)]; first | rfl | omega | (simp; done) | (simp; omega))) | skip))
  ) ?_
  intro l hl τ hτ
  refine AWp_weak hτ ?_
  subst hl
  ((repeat' first | refine AWp_seq ?_ | (refine AWp_reg tok (by rfl) ?_; conv => whnf) | (refine AWp_any tok mix (by rfl) ?_; conv => whnf) | refine AWp_block ?_ | (refine AWp_skip ?_; conv => whnf) | (refine AWp_exit ?_; conv => whnf) | (refine AWp_ret ?_; conv => whnf) | (refine @And.intro (underG _ _ _ _) _ ?_ ?_; rotate_left; (conv => whnf); rotate_right) | (refine fun (bn : Bool) (hbn : (0 < _ → bn = _)) => ?_; conv => whnf)); all_goals (try ((first | refine underG_none ?_ | (refine underG_some ?_; intro hgd; conv at hgd => whnf)); (first | refine And.intro (srcObl_rs rfl ?_) ?_ | refine And.intro srcObl_sl ?_ | refine And.intro srcObl_nsl ?_ | skip); (all_goals (try simp only [underG, true_and, and_true, Bool.cond_true_left, Bool.cond_false_left, Bool.cond_true_right, Bool.cond_false_right, Bool.or_eq_true, Bool.and_eq_true, Bool.or_eq_false_iff, Bool.and_eq_false_iff, cond_true, cond_false, Bool.not_eq_eq_eq_not, Bool.not_true, Bool.not_false, decide_eq_true_eq, decide_eq_false_iff_not, Int.toNat_natCast, Nat.zero_add, Decidable.not_not, maxL] at *)); all_goals omega)))
  rw [hnx]
  revert hlen
  generalize nxt3 (F.blocks.getD k default).fin = l
  intro hlen
  refine AWp_loop (fun i : Nat => mkS [(2, .bp (2, 0, 0) 0), (6, .rs (6, 9, 0) 1 0 l.length), (7, .rs (7, 9, 0) 1 0 (kept (fun k => !isIn F k) (l.take i)).length), (8, iv i)] [((2, 0, 0), fbox F), ((6, 9, 0), irow l.length l), ((7, 9, 0), irow (kept (fun k => !isIn F k) (l.take i)).length (kept (fun k => !isIn F k) (l.take i)))])
    (fun i => i ≤ l.length) (fun i => l.length - i) 0 (Nat.zero_le _) ?_ ?_
  · refine Weak.list [((2, 0, 0), .old (2, 0, 0), fbox F), ((6, 9, 0), .old (6, 9, 0), irow l.length l), ((7, 9, 0), .nil, irow 0 [])] rfl (by rfl) ?_ (.old rfl (BLe.refl _) (.old rfl (BLe.refl _) (.new .nil)))
    ((repeat' first | exact TLes.nil | refine TLes.cons (TLe.eq rfl) ?_ | refine TLes.cons (TLe.nilL rfl ?_) ?_ | refine TLes.cons (TLe.rsL rfl ?_) ?_ | refine TLes.cons (TLe.int ?_) ?_ | refine TLes.cons (TLe.bool ?_) ?_); (all_goals first | rfl | ((try (simp only [underG, true_and, and_true, Bool.cond_true_left, Bool.cond_false_left, Bool.cond_true_right, Bool.cond_false_right, Bool.or_eq_true, Bool.and_eq_true, Bool.or_eq_false_iff, Bool.and_eq_false_iff, cond_true, cond_false, Bool.not_eq_eq_eq_not, Bool.not_true, Bool.not_false, decide_eq_true_eq, decide_eq_false_iff_not, Int.toNat_natCast, Nat.zero_add, Decidable.not_not, maxL] at *)); first | omega | (rw [wrap64 (by omega) (by omega)]; first | rfl | omega | (simp; done) | (simp; omega))) | skip))
  intro i hi
  have hkl := kept_len (fun k => !isIn F k) (l.take i)
  rw [List.length_take] at hkl
  ((repeat' first | refine AWp_seq ?_ | (refine AWp_reg tok (by rfl) ?_; conv => whnf) | (refine AWp_any tok mix (by rfl) ?_; conv => whnf) | refine AWp_block ?_ | (refine AWp_skip ?_; conv => whnf) | (refine AWp_exit ?_; conv => whnf) | (refine AWp_ret ?_; conv => whnf) | refine AWp_cond rfl (fun hb => ?_) (fun hb => ?_) | (refine @And.intro (underG _ _ _ _) _ ?_ ?_; rotate_left; (conv => whnf); rotate_right) | (refine fun (bn : Bool) (hbn : (0 < _ → bn = _)) => ?_; conv => whnf)); all_goals (try ((first | refine underG_none ?_ | (refine underG_some ?_; intro hgd; conv at hgd => whnf)); (first | refine And.intro (srcObl_rs rfl ?_) ?_ | refine And.intro srcObl_sl ?_ | refine And.intro srcObl_nsl ?_ | skip); (all_goals (try simp only [underG, true_and, and_true, Bool.cond_true_left, Bool.cond_false_left, Bool.cond_true_right, Bool.cond_false_right, Bool.or_eq_true, Bool.and_eq_true, Bool.or_eq_false_iff, Bool.and_eq_false_iff, cond_true, cond_false, Bool.not_eq_eq_eq_not, Bool.not_true, Bool.not_false, decide_eq_true_eq, decide_eq_false_iff_not, Int.toNat_natCast, Nat.zero_add, Decidable.not_not, maxL] at *)); all_goals omega)))
  · have hi' : i < l.length := by simp only [underG, true_and, and_true, Bool.cond_true_left, Bool.cond_false_left, Bool.cond_true_right, Bool.cond_false_right, Bool.or_eq_true, Bool.and_eq_true, Bool.or_eq_false_iff, Bool.and_eq_false_iff, cond_true, cond_false, Bool.not_eq_eq_eq_not, Bool.not_true, Bool.not_false, decide_eq_true_eq, decide_eq_false_iff_not, Int.toNat_natCast, Nat.zero_add, Decidable.not_not, maxL] at *; omega
    have hp : (!isIn F (l.getD i 0)) = false := by
      simp only [underG, true_and, and_true, Bool.cond_true_left, Bool.cond_false_left, Bool.cond_true_right, Bool.cond_false_right, Bool.or_eq_true, Bool.and_eq_true, Bool.or_eq_false_iff, Bool.and_eq_false_iff, cond_true, cond_false, Bool.not_eq_eq_eq_not, Bool.not_true, Bool.not_false, decide_eq_true_eq, decide_eq_false_iff_not, Int.toNat_natCast, Nat.zero_add, Decidable.not_not, maxL] at *
      exact hb
    have hk := kept_keep (p := fun k => !isIn F k) hi' hp
    refine ⟨i + 1, hi', by omega, ?_⟩
    rw [hk]
    refine Weak.list [((2, 0, 0), .old (2, 0, 0), fbox F), ((6, 9, 0), .old (6, 9, 0), irow l.length l), ((7, 9, 0), .old (85, 0, 0), irow (kept (fun k => !isIn F k) (l.take i) ++ [l.getD i 0]).length (kept (fun k => !isIn F k) (l.take i) ++ [l.getD i 0]))] rfl (by rfl) ?_
      (.old rfl (BLe.refl _) (.old rfl (BLe.refl _) (.old rfl (BLe.row (by simp) (fun x hx => ?_)) .nil)))
    · ((repeat' first | exact TLes.nil | refine TLes.cons (TLe.eq rfl) ?_ | refine TLes.cons (TLe.nilL rfl ?_) ?_ | refine TLes.cons (TLe.rsL rfl ?_) ?_ | refine TLes.cons (TLe.int ?_) ?_ | refine TLes.cons (TLe.bool ?_) ?_); (all_goals first | rfl | ((try (simp only [underG, true_and, and_true, Bool.cond_true_left, Bool.cond_false_left, Bool.cond_true_right, Bool.cond_false_right, Bool.or_eq_true, Bool.and_eq_true, Bool.or_eq_false_iff, Bool.and_eq_false_iff, cond_true, cond_false, Bool.not_eq_eq_eq_not, Bool.not_true, Bool.not_false, decide_eq_true_eq, decide_eq_false_iff_not, Int.toNat_natCast, Nat.zero_add, Decidable.not_not, maxL] at *)); first | omega | (rw [wrap64 (by omega) (by omega)]; first | rfl | omega | (simp; done) | (simp; omega))) | skip))
      simp
    · rw [show l.getD i 0 = l.getD (0 + (i : Int).toNat) 0 by simp]
      exact app_gen (fun n => [iv n]) 0 1 rfl hx
  · have hi' : i < l.length := by simp only [underG, true_and, and_true, Bool.cond_true_left, Bool.cond_false_left, Bool.cond_true_right, Bool.cond_false_right, Bool.or_eq_true, Bool.and_eq_true, Bool.or_eq_false_iff, Bool.and_eq_false_iff, cond_true, cond_false, Bool.not_eq_eq_eq_not, Bool.not_true, Bool.not_false, decide_eq_true_eq, decide_eq_false_iff_not, Int.toNat_natCast, Nat.zero_add, Decidable.not_not, maxL] at *; omega
    have hp : (!isIn F (l.getD i 0)) = true := by
      simp only [Nat.zero_add, Int.toNat_natCast] at hb
      simp only [isIn, hb, Bool.not_false]
    have hk := kept_drop (p := fun k => !isIn F k) hi' hp
    refine ⟨i + 1, hi', by omega, ?_⟩
    rw [hk]
    refine Weak.list [((2, 0, 0), .old (2, 0, 0), fbox F), ((6, 9, 0), .old (6, 9, 0), irow l.length l), ((7, 9, 0), .old (7, 9, 0), irow (kept (fun k => !isIn F k) (l.take i)).length (kept (fun k => !isIn F k) (l.take i)))] rfl (by rfl) ?_
      (.old rfl (BLe.refl _) (.old rfl (BLe.refl _) (.old rfl (BLe.refl _) .nil)))
    ((repeat' first | exact TLes.nil | refine TLes.cons (TLe.eq rfl) ?_ | refine TLes.cons (TLe.nilL rfl ?_) ?_ | refine TLes.cons (TLe.rsL rfl ?_) ?_ | refine TLes.cons (TLe.int ?_) ?_ | refine TLes.cons (TLe.bool ?_) ?_); (all_goals first | rfl | ((try (simp only [underG, true_and, and_true, Bool.cond_true_left, Bool.cond_false_left, Bool.cond_true_right, Bool.cond_false_right, Bool.or_eq_true, Bool.and_eq_true, Bool.or_eq_false_iff, Bool.and_eq_false_iff, cond_true, cond_false, Bool.not_eq_eq_eq_not, Bool.not_true, Bool.not_false, decide_eq_true_eq, decide_eq_false_iff_not, Int.toNat_natCast, Nat.zero_add, Decidable.not_not, maxL] at *)); first | omega | (rw [wrap64 (by omega) (by omega)]; first | rfl | omega | (simp; done) | (simp; omega))) | skip))
  · have e : l.take i = l := List.take_of_length_le (by simp only [underG, true_and, and_true, Bool.cond_true_left, Bool.cond_false_left, Bool.cond_true_right, Bool.cond_false_right, Bool.or_eq_true, Bool.and_eq_true, Bool.or_eq_false_iff, Bool.and_eq_false_iff, cond_true, cond_false, Bool.not_eq_eq_eq_not, Bool.not_true, Bool.not_false, decide_eq_true_eq, decide_eq_false_iff_not, Int.toNat_natCast, Nat.zero_add, Decidable.not_not, maxL] at *; omega)
    rw [e]
    exact ⟨_, rfl, Rel.row rfl rfl rfl (fun _ _ => rfl)⟩
end Go.Proofs.Ytmkiahbnfmpieaa
namespace Go.Proofs.Ytmkiahbnfmpieaa
open Go Dv
set_option maxRecDepth 10000
set_option linter.unusedSimpArgs false
theorem fc26 (l : List Int) (k : Int) : FC Try.prog 26 [ints l, .int .i64 k] (.bool (l.contains k)) := by
  refine FC_intro tok Try.func26 rfl (by decide +kernel) (Nat.le_of_ble_eq_true rfl) ?_
  refine AWp_facts 0 (fun hl => ?_)
  have hl0 : l.length ≤ maxL := hl.1
  ((repeat' first | refine AWp_seq ?_ | (refine AWp_reg tok (by rfl) ?_; conv => whnf) | (refine AWp_any tok mix (by rfl) ?_; conv => whnf) | refine AWp_block ?_ | (refine AWp_skip ?_; conv => whnf) | (refine AWp_exit ?_; conv => whnf) | (refine AWp_ret ?_; conv => whnf) | refine AWp_cond rfl (fun hb => ?_) (fun hb => ?_) | (refine @And.intro (underG _ _ _ _) _ ?_ ?_; rotate_left; (conv => whnf); rotate_right) | (refine fun (bn : Bool) (hbn : (0 < _ → bn = _)) => ?_; conv => whnf)); all_goals (try ((first | refine underG_none ?_ | (refine underG_some ?_; intro hgd; conv at hgd => whnf)); (first | refine And.intro (srcObl_rs rfl ?_) ?_ | refine And.intro srcObl_sl ?_ | refine And.intro srcObl_nsl ?_ | skip); (all_goals (try simp only [underG, true_and, and_true, Bool.cond_true_left, Bool.cond_false_left, Bool.cond_true_right, Bool.cond_false_right, Bool.or_eq_true, Bool.and_eq_true, Bool.or_eq_false_iff, Bool.and_eq_false_iff, cond_true, cond_false, Bool.not_eq_eq_eq_not, Bool.not_true, Bool.not_false, decide_eq_true_eq, decide_eq_false_iff_not, Int.toNat_natCast, Nat.zero_add, Decidable.not_not, maxL] at *)); all_goals omega)))
  refine AWp_loop (fun i : Nat => mkS [(0, ints l), (1, .int .i64 k), (4, .bool false), (5, .int .i64 i)] []) (fun i => i ≤ l.length ∧ ∀ j, j < i → decide (k = l.getD j 0) = false) (fun i => l.length - i) 0 ⟨Nat.zero_le _, by simp⟩ ?_ ?_
  · refine Weak.list [] rfl (by rfl) ?_ .nil
    ((repeat' first | exact TLes.nil | refine TLes.cons (TLe.eq rfl) ?_ | refine TLes.cons (TLe.nilL rfl ?_) ?_ | refine TLes.cons (TLe.rsL rfl ?_) ?_ | refine TLes.cons (TLe.int ?_) ?_ | refine TLes.cons (TLe.bool ?_) ?_); (all_goals first | rfl | ((try (simp only [underG, true_and, and_true, Bool.cond_true_left, Bool.cond_false_left, Bool.cond_true_right, Bool.cond_false_right, Bool.or_eq_true, Bool.and_eq_true, Bool.or_eq_false_iff, Bool.and_eq_false_iff, cond_true, cond_false, Bool.not_eq_eq_eq_not, Bool.not_true, Bool.not_false, decide_eq_true_eq, decide_eq_false_iff_not, Int.toNat_natCast, Nat.zero_add, Decidable.not_not, maxL] at *)); first | omega | (rw [wrap64 (by omega) (by omega)]; first | rfl | omega | (simp; done) | (simp; omega))) | skip))
  rintro i ⟨hi, hc⟩
  ((repeat' first | refine AWp_seq ?_ | (refine AWp_reg tok (by rfl) ?_; conv => whnf) | (refine AWp_any tok mix (by rfl) ?_; conv => whnf) | refine AWp_block ?_ | (refine AWp_skip ?_; conv => whnf) | (refine AWp_exit ?_; conv => whnf) | (refine AWp_ret ?_; conv => whnf) | refine AWp_cond rfl (fun hb => ?_) (fun hb => ?_) | (refine @And.intro (underG _ _ _ _) _ ?_ ?_; rotate_left; (conv => whnf); rotate_right) | (refine fun (bn : Bool) (hbn : (0 < _ → bn = _)) => ?_; conv => whnf)); all_goals (try ((first | refine underG_none ?_ | (refine underG_some ?_; intro hgd; conv at hgd => whnf)); (first | refine And.intro (srcObl_rs rfl ?_) ?_ | refine And.intro srcObl_sl ?_ | refine And.intro srcObl_nsl ?_ | skip); (all_goals (try simp only [underG, true_and, and_true, Bool.cond_true_left, Bool.cond_false_left, Bool.cond_true_right, Bool.cond_false_right, Bool.or_eq_true, Bool.and_eq_true, Bool.or_eq_false_iff, Bool.and_eq_false_iff, cond_true, cond_false, Bool.not_eq_eq_eq_not, Bool.not_true, Bool.not_false, decide_eq_true_eq, decide_eq_false_iff_not, Int.toNat_natCast, Nat.zero_add, Decidable.not_not, maxL] at *)); all_goals omega)))
  · refine ⟨_, rfl, Rel.bool ?_⟩
    rw [← indexOf_contains]
    rename_i h1
    simp only [underG, true_and, and_true, Bool.cond_true_left, Bool.cond_false_left, Bool.cond_true_right, Bool.cond_false_right, Bool.or_eq_true, Bool.and_eq_true, Bool.or_eq_false_iff, Bool.and_eq_false_iff, cond_true, cond_false, Bool.not_eq_eq_eq_not, Bool.not_true, Bool.not_false, decide_eq_true_eq, decide_eq_false_iff_not, Int.toNat_natCast, Nat.zero_add, Decidable.not_not, maxL] at *
    rw [show indexOf l k = (i : Int) from idx_at (by omega) (fun j hj => by simpa using hc j hj) (by simpa using hb.symm)]
    simp
  · rename_i h1
    refine ⟨i + 1, ⟨by simp only [underG, true_and, and_true, Bool.cond_true_left, Bool.cond_false_left, Bool.cond_true_right, Bool.cond_false_right, Bool.or_eq_true, Bool.and_eq_true, Bool.or_eq_false_iff, Bool.and_eq_false_iff, cond_true, cond_false, Bool.not_eq_eq_eq_not, Bool.not_true, Bool.not_false, decide_eq_true_eq, decide_eq_false_iff_not, Int.toNat_natCast, Nat.zero_add, Decidable.not_not, maxL] at *; omega, fun j hj => ?_⟩, by simp only [underG, true_and, and_true, Bool.cond_true_left, Bool.cond_false_left, Bool.cond_true_right, Bool.cond_false_right, Bool.or_eq_true, Bool.and_eq_true, Bool.or_eq_false_iff, Bool.and_eq_false_iff, cond_true, cond_false, Bool.not_eq_eq_eq_not, Bool.not_true, Bool.not_false, decide_eq_true_eq, decide_eq_false_iff_not, Int.toNat_natCast, Nat.zero_add, Decidable.not_not, maxL] at *; omega, ?_⟩
    · by_cases e : j = i
      · subst e; simp only [underG, true_and, and_true, Bool.cond_true_left, Bool.cond_false_left, Bool.cond_true_right, Bool.cond_false_right, Bool.or_eq_true, Bool.and_eq_true, Bool.or_eq_false_iff, Bool.and_eq_false_iff, cond_true, cond_false, Bool.not_eq_eq_eq_not, Bool.not_true, Bool.not_false, decide_eq_true_eq, decide_eq_false_iff_not, Int.toNat_natCast, Nat.zero_add, Decidable.not_not, maxL] at *; simpa using fun h => hb h.symm
      · exact hc j (by omega)
    refine Weak.list [] rfl (by rfl) ?_ .nil
    ((repeat' first | exact TLes.nil | refine TLes.cons (TLe.eq rfl) ?_ | refine TLes.cons (TLe.nilL rfl ?_) ?_ | refine TLes.cons (TLe.rsL rfl ?_) ?_ | refine TLes.cons (TLe.int ?_) ?_ | refine TLes.cons (TLe.bool ?_) ?_); (all_goals first | rfl | ((try (simp only [underG, true_and, and_true, Bool.cond_true_left, Bool.cond_false_left, Bool.cond_true_right, Bool.cond_false_right, Bool.or_eq_true, Bool.and_eq_true, Bool.or_eq_false_iff, Bool.and_eq_false_iff, cond_true, cond_false, Bool.not_eq_eq_eq_not, Bool.not_true, Bool.not_false, decide_eq_true_eq, decide_eq_false_iff_not, Int.toNat_natCast, Nat.zero_add, Decidable.not_not, maxL] at *)); first | omega | (rw [wrap64 (by omega) (by omega)]; first | rfl | omega | (simp; done) | (simp; omega))) | skip))
  · refine ⟨_, rfl, Rel.bool ?_⟩
    rw [← indexOf_contains]
    rw [show indexOf l k = -1 from idx_none (fun j hj => hc j (by simp only [underG, true_and, and_true, Bool.cond_true_left, Bool.cond_false_left, Bool.cond_true_right, Bool.cond_false_right, Bool.or_eq_true, Bool.and_eq_true, Bool.or_eq_false_iff, Bool.and_eq_false_iff, cond_true, cond_false, Bool.not_eq_eq_eq_not, Bool.not_true, Bool.not_false, decide_eq_true_eq, decide_eq_false_iff_not, Int.toNat_natCast, Nat.zero_add, Decidable.not_not, maxL] at *; omega))]
    rfl
theorem fc20 (F : Func) (n : Int) : FC Try.prog 20 [.agg (encFunc F), iv n] (ints (before F n)) := by
  refine FC_intro tok Try.func20 rfl (by decide +kernel) (Nat.le_of_ble_eq_true rfl) ?_
  refine AWp_facts 0 (fun hl => ?_)
  have hl0 : F.blocks.length ≤ maxL := hl.2.2.1.1
  ((repeat' first | refine AWp_seq ?_ | (refine AWp_reg tok (by rfl) ?_; conv => whnf) | (refine AWp_any tok mix (by rfl) ?_; conv => whnf) | refine AWp_block ?_ | (refine AWp_skip ?_; conv => whnf) | (refine AWp_exit ?_; conv => whnf) | (refine AWp_ret ?_; conv => whnf) | refine AWp_cond rfl (fun hb => ?_) (fun hb => ?_) | (refine @And.intro (underG _ _ _ _) _ ?_ ?_; rotate_left; (conv => whnf); rotate_right) | (refine fun (bn : Bool) (hbn : (0 < _ → bn = _)) => ?_; conv => whnf)); all_goals (try ((first | refine underG_none ?_ | (refine underG_some ?_; intro hgd; conv at hgd => whnf)); (first | refine And.intro (srcObl_rs rfl ?_) ?_ | refine And.intro srcObl_sl ?_ | refine And.intro srcObl_nsl ?_ | skip); (all_goals (try simp only [underG, true_and, and_true, Bool.cond_true_left, Bool.cond_false_left, Bool.cond_true_right, Bool.cond_false_right, Bool.or_eq_true, Bool.and_eq_true, Bool.or_eq_false_iff, Bool.and_eq_false_iff, cond_true, cond_false, Bool.not_eq_eq_eq_not, Bool.not_true, Bool.not_false, decide_eq_true_eq, decide_eq_false_iff_not, Int.toNat_natCast, Nat.zero_add, Decidable.not_not, maxL] at *)); all_goals omega)))
  refine AWp_loop (fun i : Nat => mkS [(1, iv n), (2, .bp (2, 0, 0) 0), (5, .rs (5, 9, 0) 1 0 (beforeTo F n i).length), (6, iv i)] [((2, 0, 0), fbox F), ((5, 9, 0), irow (beforeTo F n i).length (beforeTo F n i))])
    (fun i => i ≤ F.blocks.length) (fun i => F.blocks.length - i) 0 (Nat.zero_le _) ?_ ?_
  · refine Weak.list [((2, 0, 0), .old (2, 0, 0), fbox F), ((5, 9, 0), .nil, irow 0 [])] rfl (by rfl) ?_ (.old rfl (BLe.refl _) (.new .nil))
    ((repeat' first | exact TLes.nil | refine TLes.cons (TLe.eq rfl) ?_ | refine TLes.cons (TLe.nilL rfl ?_) ?_ | refine TLes.cons (TLe.rsL rfl ?_) ?_ | refine TLes.cons (TLe.int ?_) ?_ | refine TLes.cons (TLe.bool ?_) ?_); (all_goals first | rfl | ((try (simp only [underG, true_and, and_true, Bool.cond_true_left, Bool.cond_false_left, Bool.cond_true_right, Bool.cond_false_right, Bool.or_eq_true, Bool.and_eq_true, Bool.or_eq_false_iff, Bool.and_eq_false_iff, cond_true, cond_false, Bool.not_eq_eq_eq_not, Bool.not_true, Bool.not_false, decide_eq_true_eq, decide_eq_false_iff_not, Int.toNat_natCast, Nat.zero_add, Decidable.not_not, maxL] at *)); first | omega | (rw [wrap64 (by omega) (by omega)]; first | rfl | omega | (simp; done) | (simp; omega))) | skip))
  intro i hi
  have hbl := beforeTo_len F n i
  have hbs := beforeTo_succ F n i
  ((repeat' first | refine AWp_seq ?_ | (refine AWp_reg tok (by rfl) ?_; conv => whnf) | (refine AWp_any tok mix (by rfl) ?_; conv => whnf) | refine AWp_block ?_ | (refine AWp_skip ?_; conv => whnf) | (refine AWp_exit ?_; conv => whnf) | (refine AWp_ret ?_; conv => whnf) | refine AWp_cond rfl (fun hb => ?_) (fun hb => ?_) | (refine @And.intro (underG _ _ _ _) _ ?_ ?_; rotate_left; (conv => whnf); rotate_right) | (refine fun (bn : Bool) (hbn : (0 < _ → bn = _)) => ?_; conv => whnf)); all_goals (try ((first | refine underG_none ?_ | (refine underG_some ?_; intro hgd; conv at hgd => whnf)); (first | refine And.intro (srcObl_rs rfl ?_) ?_ | refine And.intro srcObl_sl ?_ | refine And.intro srcObl_nsl ?_ | skip); (all_goals (try simp only [underG, true_and, and_true, Bool.cond_true_left, Bool.cond_false_left, Bool.cond_true_right, Bool.cond_false_right, Bool.or_eq_true, Bool.and_eq_true, Bool.or_eq_false_iff, Bool.and_eq_false_iff, cond_true, cond_false, Bool.not_eq_eq_eq_not, Bool.not_true, Bool.not_false, decide_eq_true_eq, decide_eq_false_iff_not, Int.toNat_natCast, Nat.zero_add, Decidable.not_not, maxL] at *)); all_goals omega)))
  · refine .inl ⟨_, _, _, uG (QC.fc (fc18 F i) rfl), ?_⟩
    conv => whnf
    ((repeat' first | refine AWp_seq ?_ | (refine AWp_reg tok (by rfl) ?_; conv => whnf) | (refine AWp_any tok mix (by rfl) ?_; conv => whnf) | refine AWp_block ?_ | (refine AWp_skip ?_; conv => whnf) | (refine AWp_exit ?_; conv => whnf) | (refine AWp_ret ?_; conv => whnf) | refine AWp_cond rfl (fun hb => ?_) (fun hb => ?_) | (refine @And.intro (underG _ _ _ _) _ ?_ ?_; rotate_left; (conv => whnf); rotate_right) | (refine fun (bn : Bool) (hbn : (0 < _ → bn = _)) => ?_; conv => whnf)); all_goals (try ((first | refine underG_none ?_ | (refine underG_some ?_; intro hgd; conv at hgd => whnf)); (first | refine And.intro (srcObl_rs rfl ?_) ?_ | refine And.intro srcObl_sl ?_ | refine And.intro srcObl_nsl ?_ | skip); (all_goals (try simp only [underG, true_and, and_true, Bool.cond_true_left, Bool.cond_false_left, Bool.cond_true_right, Bool.cond_false_right, Bool.or_eq_true, Bool.and_eq_true, Bool.or_eq_false_iff, Bool.and_eq_false_iff, cond_true, cond_false, Bool.not_eq_eq_eq_not, Bool.not_true, Bool.not_false, decide_eq_true_eq, decide_eq_false_iff_not, Int.toNat_natCast, Nat.zero_add, Decidable.not_not, maxL] at *)); all_goals omega)))
    refine .inl ⟨_, _, _, uG (QC.fc (fc26 (next F i) n) rfl), ?_⟩
    conv => whnf
    ((repeat' first | refine AWp_seq ?_ | (refine AWp_reg tok (by rfl) ?_; conv => whnf) | (refine AWp_any tok mix (by rfl) ?_; conv => whnf) | refine AWp_block ?_ | (refine AWp_skip ?_; conv => whnf) | (refine AWp_exit ?_; conv => whnf) | (refine AWp_ret ?_; conv => whnf) | refine AWp_cond rfl (fun hb => ?_) (fun hb => ?_) | (refine @And.intro (underG _ _ _ _) _ ?_ ?_; rotate_left; (conv => whnf); rotate_right) | (refine fun (bn : Bool) (hbn : (0 < _ → bn = _)) => ?_; conv => whnf)); all_goals (try ((first | refine underG_none ?_ | (refine underG_some ?_; intro hgd; conv at hgd => whnf)); (first | refine And.intro (srcObl_rs rfl ?_) ?_ | refine And.intro srcObl_sl ?_ | refine And.intro srcObl_nsl ?_ | skip); (all_goals (try simp only [underG, true_and, and_true, Bool.cond_true_left, Bool.cond_false_left, Bool.cond_true_right, Bool.cond_false_right, Bool.or_eq_true, Bool.and_eq_true, Bool.or_eq_false_iff, Bool.and_eq_false_iff, cond_true, cond_false, Bool.not_eq_eq_eq_not, Bool.not_true, Bool.not_false, decide_eq_true_eq, decide_eq_false_iff_not, Int.toNat_natCast, Nat.zero_add, Decidable.not_not, maxL] at *)); all_goals omega)))
    · rw [if_pos hb] at hbs
      rename_i hlt
      refine ⟨i + 1, by simp only [underG, true_and, and_true, Bool.cond_true_left, Bool.cond_false_left, Bool.cond_true_right, Bool.cond_false_right, Bool.or_eq_true, Bool.and_eq_true, Bool.or_eq_false_iff, Bool.and_eq_false_iff, cond_true, cond_false, Bool.not_eq_eq_eq_not, Bool.not_true, Bool.not_false, decide_eq_true_eq, decide_eq_false_iff_not, Int.toNat_natCast, Nat.zero_add, Decidable.not_not, maxL] at *; omega, by simp only [underG, true_and, and_true, Bool.cond_true_left, Bool.cond_false_left, Bool.cond_true_right, Bool.cond_false_right, Bool.or_eq_true, Bool.and_eq_true, Bool.or_eq_false_iff, Bool.and_eq_false_iff, cond_true, cond_false, Bool.not_eq_eq_eq_not, Bool.not_true, Bool.not_false, decide_eq_true_eq, decide_eq_false_iff_not, Int.toNat_natCast, Nat.zero_add, Decidable.not_not, maxL] at *; omega, ?_⟩
      refine Weak.list [((2, 0, 0), .old (2, 0, 0), fbox F), ((5, 9, 0), .old (22, 0, 0), irow (beforeTo F n (i + 1)).length (beforeTo F n (i + 1)))] rfl (by rfl) ?_ ?_
      · ((repeat' first | exact TLes.nil | refine TLes.cons (TLe.eq rfl) ?_ | refine TLes.cons (TLe.nilL rfl ?_) ?_ | refine TLes.cons (TLe.rsL rfl ?_) ?_ | refine TLes.cons (TLe.int ?_) ?_ | refine TLes.cons (TLe.bool ?_) ?_); (all_goals first | rfl | ((try (simp only [underG, true_and, and_true, Bool.cond_true_left, Bool.cond_false_left, Bool.cond_true_right, Bool.cond_false_right, Bool.or_eq_true, Bool.and_eq_true, Bool.or_eq_false_iff, Bool.and_eq_false_iff, cond_true, cond_false, Bool.not_eq_eq_eq_not, Bool.not_true, Bool.not_false, decide_eq_true_eq, decide_eq_false_iff_not, Int.toNat_natCast, Nat.zero_add, Decidable.not_not, maxL] at *)); first | omega | (rw [wrap64 (by omega) (by omega)]; first | rfl | omega | (simp; done) | (simp; omega))) | skip))
        rw [hbs]; simp
      · refine .old rfl (BLe.refl _) (.old rfl (BLe.row (by rw [hbs]; simp) (fun x hx => ?_)) .nil)
        rw [hbs]
        exact app_gen (fun n => [iv n]) 0 1 rfl hx
    · rw [if_neg (by rw [hb]; simp)] at hbs
      rename_i hlt
      refine ⟨i + 1, by simp only [underG, true_and, and_true, Bool.cond_true_left, Bool.cond_false_left, Bool.cond_true_right, Bool.cond_false_right, Bool.or_eq_true, Bool.and_eq_true, Bool.or_eq_false_iff, Bool.and_eq_false_iff, cond_true, cond_false, Bool.not_eq_eq_eq_not, Bool.not_true, Bool.not_false, decide_eq_true_eq, decide_eq_false_iff_not, Int.toNat_natCast, Nat.zero_add, Decidable.not_not, maxL] at *; omega, by simp only [underG, true_and, and_true, Bool.cond_true_left, Bool.cond_false_left, Bool.cond_true_right, Bool.cond_false_right, Bool.or_eq_true, Bool.and_eq_true, Bool.or_eq_false_iff, Bool.and_eq_false_iff, cond_true, cond_false, Bool.not_eq_eq_eq_not, Bool.not_true, Bool.not_false, decide_eq_true_eq, decide_eq_false_iff_not, Int.toNat_natCast, Nat.zero_add, Decidable.not_not, maxL] at *; omega, ?_⟩
      rw [hbs]
      refine Weak.list [((2, 0, 0), .old (2, 0, 0), fbox F), ((5, 9, 0), .old (5, 9, 0), irow (beforeTo F n i).length (beforeTo F n i))] rfl (by rfl) ?_ (.old rfl (BLe.refl _) (.old rfl (BLe.refl _) .nil))
      ((repeat' first | exact TLes.nil | refine TLes.cons (TLe.eq rfl) ?_ | refine TLes.cons (TLe.nilL rfl ?_) ?_ | refine TLes.cons (TLe.rsL rfl ?_) ?_ | refine TLes.cons (TLe.int ?_) ?_ | refine TLes.cons (TLe.bool ?_) ?_); (all_goals first | rfl | ((try (simp only [underG, true_and, and_true, Bool.cond_true_left, Bool.cond_false_left, Bool.cond_true_right, Bool.cond_false_right, Bool.or_eq_true, Bool.and_eq_true, Bool.or_eq_false_iff, Bool.and_eq_false_iff, cond_true, cond_false, Bool.not_eq_eq_eq_not, Bool.not_true, Bool.not_false, decide_eq_true_eq, decide_eq_false_iff_not, Int.toNat_natCast, Nat.zero_add, Decidable.not_not, maxL] at *)); first | omega | (rw [wrap64 (by omega) (by omega)]; first | rfl | omega | (simp; done) | (simp; omega))) | skip))
  · have e : i = F.blocks.length := by simp only [underG, true_and, and_true, Bool.cond_true_left, Bool.cond_false_left, Bool.cond_true_right, Bool.cond_false_right, Bool.or_eq_true, Bool.and_eq_true, Bool.or_eq_false_iff, Bool.and_eq_false_iff, cond_true, cond_false, Bool.not_eq_eq_eq_not, Bool.not_true, Bool.not_false, decide_eq_true_eq, decide_eq_false_iff_not, Int.toNat_natCast, Nat.zero_add, Decidable.not_not, maxL] at *; omega
    subst e
    exact ⟨_, rfl, Rel.row rfl rfl rfl (fun _ _ => rfl)⟩
def bools (l : List Bool) : AV := .sl 1 l.length fun i => [.bool (l.getD i false)]
theorem fc21 (l k : List Bool) : FC Try.prog 21 [bools l, bools k] (.bool (decide (l = k))) := by
  refine FC_intro tok Try.func21 rfl (by decide +kernel) (Nat.le_of_ble_eq_true rfl) ?_
  refine AWp_facts 0 (fun hl => ?_)
  have hl0 : l.length ≤ maxL := hl.1
  ((repeat' first | refine AWp_seq ?_ | (refine AWp_reg tok (by rfl) ?_; conv => whnf) | (refine AWp_any tok mix (by rfl) ?_; conv => whnf) | refine AWp_block ?_ | (refine AWp_skip ?_; conv => whnf) | (refine AWp_exit ?_; conv => whnf) | (refine AWp_ret ?_; conv => whnf) | refine AWp_cond rfl (fun hb => ?_) (fun hb => ?_) | (refine @And.intro (underG _ _ _ _) _ ?_ ?_; rotate_left; (conv => whnf); rotate_right) | (refine fun (bn : Bool) (hbn : (0 < _ → bn = _)) => ?_; conv => whnf)); all_goals (try ((first | refine underG_none ?_ | (refine underG_some ?_; intro hgd; conv at hgd => whnf)); (first | refine And.intro (srcObl_rs rfl ?_) ?_ | refine And.intro srcObl_sl ?_ | refine And.intro srcObl_nsl ?_ | skip); (all_goals (try simp only [underG, true_and, and_true, Bool.cond_true_left, Bool.cond_false_left, Bool.cond_true_right, Bool.cond_false_right, Bool.or_eq_true, Bool.and_eq_true, Bool.or_eq_false_iff, Bool.and_eq_false_iff, cond_true, cond_false, Bool.not_eq_eq_eq_not, Bool.not_true, Bool.not_false, decide_eq_true_eq, decide_eq_false_iff_not, Int.toNat_natCast, Nat.zero_add, Decidable.not_not, maxL] at *)); all_goals omega)))
  · refine ⟨_, rfl, Rel.bool ?_⟩
    simp only [underG, true_and, and_true, Bool.cond_true_left, Bool.cond_false_left, Bool.cond_true_right, Bool.cond_false_right, Bool.or_eq_true, Bool.and_eq_true, Bool.or_eq_false_iff, Bool.and_eq_false_iff, cond_true, cond_false, Bool.not_eq_eq_eq_not, Bool.not_true, Bool.not_false, decide_eq_true_eq, decide_eq_false_iff_not, Int.toNat_natCast, Nat.zero_add, Decidable.not_not, maxL] at *
    symm; rw [decide_eq_false_iff_not]
    intro e; rw [e] at hb; exact hb rfl
  refine AWp_loop (fun i : Nat => mkS [(0, bools l), (1, bools k), (4, .bool false), (5, .int .i64 i)] []) (fun i => i ≤ l.length ∧ ∀ j, j < i → l.getD j false = k.getD j false) (fun i => l.length - i) 0 ⟨Nat.zero_le _, by simp⟩ ?_ ?_
  · refine Weak.list [] rfl (by rfl) ?_ .nil
    ((repeat' first | exact TLes.nil | refine TLes.cons (TLe.eq rfl) ?_ | refine TLes.cons (TLe.nilL rfl ?_) ?_ | refine TLes.cons (TLe.rsL rfl ?_) ?_ | refine TLes.cons (TLe.int ?_) ?_ | refine TLes.cons (TLe.bool ?_) ?_); (all_goals first | rfl | ((try (simp only [underG, true_and, and_true, Bool.cond_true_left, Bool.cond_false_left, Bool.cond_true_right, Bool.cond_false_right, Bool.or_eq_true, Bool.and_eq_true, Bool.or_eq_false_iff, Bool.and_eq_false_iff, cond_true, cond_false, Bool.not_eq_eq_eq_not, Bool.not_true, Bool.not_false, decide_eq_true_eq, decide_eq_false_iff_not, Int.toNat_natCast, Nat.zero_add, Decidable.not_not, maxL] at *)); first | omega | (rw [wrap64 (by omega) (by omega)]; first | rfl | omega | (simp; done) | (simp; omega))) | skip))
  rintro i ⟨hi, hc⟩
  ((repeat' first | refine AWp_seq ?_ | (refine AWp_reg tok (by rfl) ?_; conv => whnf) | (refine AWp_any tok mix (by rfl) ?_; conv => whnf) | refine AWp_block ?_ | (refine AWp_skip ?_; conv => whnf) | (refine AWp_exit ?_; conv => whnf) | (refine AWp_ret ?_; conv => whnf) | refine AWp_cond rfl (fun hb => ?_) (fun hb => ?_) | (refine @And.intro (underG _ _ _ _) _ ?_ ?_; rotate_left; (conv => whnf); rotate_right) | (refine fun (bn : Bool) (hbn : (0 < _ → bn = _)) => ?_; conv => whnf)); all_goals (try ((first | refine underG_none ?_ | (refine underG_some ?_; intro hgd; conv at hgd => whnf)); (first | refine And.intro (srcObl_rs rfl ?_) ?_ | refine And.intro srcObl_sl ?_ | refine And.intro srcObl_nsl ?_ | skip); (all_goals (try simp only [underG, true_and, and_true, Bool.cond_true_left, Bool.cond_false_left, Bool.cond_true_right, Bool.cond_false_right, Bool.or_eq_true, Bool.and_eq_true, Bool.or_eq_false_iff, Bool.and_eq_false_iff, cond_true, cond_false, Bool.not_eq_eq_eq_not, Bool.not_true, Bool.not_false, decide_eq_true_eq, decide_eq_false_iff_not, Int.toNat_natCast, Nat.zero_add, Decidable.not_not, maxL] at *)); all_goals omega)))
  all_goals simp only [underG, true_and, and_true, Bool.cond_true_left, Bool.cond_false_left, Bool.cond_true_right, Bool.cond_false_right, Bool.or_eq_true, Bool.and_eq_true, Bool.or_eq_false_iff, Bool.and_eq_false_iff, cond_true, cond_false, Bool.not_eq_eq_eq_not, Bool.not_true, Bool.not_false, decide_eq_true_eq, decide_eq_false_iff_not, Int.toNat_natCast, Nat.zero_add, Decidable.not_not, maxL] at *
  · refine ⟨_, rfl, Rel.bool ?_⟩
    symm; rw [decide_eq_false_iff_not]
    intro e; subst e; exact hb rfl
  · refine ⟨i + 1, ⟨by omega, fun j hj => ?_⟩, by omega, ?_⟩
    · by_cases e : j = i
      · subst e; exact hb
      · exact hc j (by omega)
    refine Weak.list [] rfl (by rfl) ?_ .nil
    ((repeat' first | exact TLes.nil | refine TLes.cons (TLe.eq rfl) ?_ | refine TLes.cons (TLe.nilL rfl ?_) ?_ | refine TLes.cons (TLe.rsL rfl ?_) ?_ | refine TLes.cons (TLe.int ?_) ?_ | refine TLes.cons (TLe.bool ?_) ?_); (all_goals first | rfl | ((try (simp only [underG, true_and, and_true, Bool.cond_true_left, Bool.cond_false_left, Bool.cond_true_right, Bool.cond_false_right, Bool.or_eq_true, Bool.and_eq_true, Bool.or_eq_false_iff, Bool.and_eq_false_iff, cond_true, cond_false, Bool.not_eq_eq_eq_not, Bool.not_true, Bool.not_false, decide_eq_true_eq, decide_eq_false_iff_not, Int.toNat_natCast, Nat.zero_add, Decidable.not_not, maxL] at *)); first | omega | (rw [wrap64 (by omega) (by omega)]; first | rfl | omega | (simp; done) | (simp; omega))) | skip))
  · refine ⟨_, rfl, Rel.bool ?_⟩
    symm; rw [decide_eq_true_eq]
    exact list_ext_getD false (by omega) (fun j hj => hc j (by omega))
theorem fc16 (l k : List Int) : FC Try.prog 16 [ints l, ints k] (.bool (decide (l = k))) := by
  refine FC_intro tok Try.func16 rfl (by decide +kernel) (Nat.le_of_ble_eq_true rfl) ?_
  refine AWp_facts 0 (fun hl => ?_)
  have hl0 : l.length ≤ maxL := hl.1
  ((repeat' first | refine AWp_seq ?_ | (refine AWp_reg tok (by rfl) ?_; conv => whnf) | (refine AWp_any tok mix (by rfl) ?_; conv => whnf) | refine AWp_block ?_ | (refine AWp_skip ?_; conv => whnf) | (refine AWp_exit ?_; conv => whnf) | (refine AWp_ret ?_; conv => whnf) | refine AWp_cond rfl (fun hb => ?_) (fun hb => ?_) | (refine @And.intro (underG _ _ _ _) _ ?_ ?_; rotate_left; (conv => whnf); rotate_right) | (refine fun (bn : Bool) (hbn : (0 < _ → bn = _)) => ?_; conv => whnf)); all_goals (try ((first | refine underG_none ?_ | (refine underG_some ?_; intro hgd; conv at hgd => whnf)); (first | refine And.intro (srcObl_rs rfl ?_) ?_ | refine And.intro srcObl_sl ?_ | refine And.intro srcObl_nsl ?_ | skip); (all_goals (try simp only [underG, true_and, and_true, Bool.cond_true_left, Bool.cond_false_left, Bool.cond_true_right, Bool.cond_false_right, Bool.or_eq_true, Bool.and_eq_true, Bool.or_eq_false_iff, Bool.and_eq_false_iff, cond_true, cond_false, Bool.not_eq_eq_eq_not, Bool.not_true, Bool.not_false, decide_eq_true_eq, decide_eq_false_iff_not, Int.toNat_natCast, Nat.zero_add, Decidable.not_not, maxL] at *)); all_goals omega)))
  · refine ⟨_, rfl, Rel.bool ?_⟩
    simp only [underG, true_and, and_true, Bool.cond_true_left, Bool.cond_false_left, Bool.cond_true_right, Bool.cond_false_right, Bool.or_eq_true, Bool.and_eq_true, Bool.or_eq_false_iff, Bool.and_eq_false_iff, cond_true, cond_false, Bool.not_eq_eq_eq_not, Bool.not_true, Bool.not_false, decide_eq_true_eq, decide_eq_false_iff_not, Int.toNat_natCast, Nat.zero_add, Decidable.not_not, maxL] at *
    symm; rw [decide_eq_false_iff_not]
    intro e; rw [e] at hb; exact hb rfl
  refine AWp_loop (fun i : Nat => mkS [(0, ints l), (1, ints k), (4, .bool false), (5, .int .i64 i)] []) (fun i => i ≤ l.length ∧ ∀ j, j < i → l.getD j 0 = k.getD j 0) (fun i => l.length - i) 0 ⟨Nat.zero_le _, by simp⟩ ?_ ?_
  · refine Weak.list [] rfl (by rfl) ?_ .nil
    ((repeat' first | exact TLes.nil | refine TLes.cons (TLe.eq rfl) ?_ | refine TLes.cons (TLe.nilL rfl ?_) ?_ | refine TLes.cons (TLe.rsL rfl ?_) ?_ | refine TLes.cons (TLe.int ?_) ?_ | refine TLes.cons (TLe.bool ?_) ?_); (all_goals first | rfl | ((try (simp only [underG, true_and, and_true, Bool.cond_true_left, Bool.cond_false_left, Bool.cond_true_right, Bool.cond_false_right, Bool.or_eq_true, Bool.and_eq_true, Bool.or_eq_false_iff, Bool.and_eq_false_iff, cond_true, cond_false, Bool.not_eq_eq_eq_not, Bool.not_true, Bool.not_false, decide_eq_true_eq, decide_eq_false_iff_not, Int.toNat_natCast, Nat.zero_add, Decidable.not_not, maxL] at *)); first | omega | (rw [wrap64 (by omega) (by omega)]; first | rfl | omega | (simp; done) | (simp; omega))) | skip))
  rintro i ⟨hi, hc⟩
  ((repeat' first | refine AWp_seq ?_ | (refine AWp_reg tok (by rfl) ?_; conv => whnf) | (refine AWp_any tok mix (by rfl) ?_; conv => whnf) | refine AWp_block ?_ | (refine AWp_skip ?_; conv => whnf) | (refine AWp_exit ?_; conv => whnf) | (refine AWp_ret ?_; conv => whnf) | refine AWp_cond rfl (fun hb => ?_) (fun hb => ?_) | (refine @And.intro (underG _ _ _ _) _ ?_ ?_; rotate_left; (conv => whnf); rotate_right) | (refine fun (bn : Bool) (hbn : (0 < _ → bn = _)) => ?_; conv => whnf)); all_goals (try ((first | refine underG_none ?_ | (refine underG_some ?_; intro hgd; conv at hgd => whnf)); (first | refine And.intro (srcObl_rs rfl ?_) ?_ | refine And.intro srcObl_sl ?_ | refine And.intro srcObl_nsl ?_ | skip); (all_goals (try simp only [underG, true_and, and_true, Bool.cond_true_left, Bool.cond_false_left, Bool.cond_true_right, Bool.cond_false_right, Bool.or_eq_true, Bool.and_eq_true, Bool.or_eq_false_iff, Bool.and_eq_false_iff, cond_true, cond_false, Bool.not_eq_eq_eq_not, Bool.not_true, Bool.not_false, decide_eq_true_eq, decide_eq_false_iff_not, Int.toNat_natCast, Nat.zero_add, Decidable.not_not, maxL] at *)); all_goals omega)))
  all_goals simp only [underG, true_and, and_true, Bool.cond_true_left, Bool.cond_false_left, Bool.cond_true_right, Bool.cond_false_right, Bool.or_eq_true, Bool.and_eq_true, Bool.or_eq_false_iff, Bool.and_eq_false_iff, cond_true, cond_false, Bool.not_eq_eq_eq_not, Bool.not_true, Bool.not_false, decide_eq_true_eq, decide_eq_false_iff_not, Int.toNat_natCast, Nat.zero_add, Decidable.not_not, maxL] at *
  · refine ⟨_, rfl, Rel.bool ?_⟩
    symm; rw [decide_eq_false_iff_not]
    intro e; subst e; exact hb rfl
  · refine ⟨i + 1, ⟨by omega, fun j hj => ?_⟩, by omega, ?_⟩
    · by_cases e : j = i
      · subst e; exact hb
      · exact hc j (by omega)
    refine Weak.list [] rfl (by rfl) ?_ .nil
    ((repeat' first | exact TLes.nil | refine TLes.cons (TLe.eq rfl) ?_ | refine TLes.cons (TLe.nilL rfl ?_) ?_ | refine TLes.cons (TLe.rsL rfl ?_) ?_ | refine TLes.cons (TLe.int ?_) ?_ | refine TLes.cons (TLe.bool ?_) ?_); (all_goals first | rfl | ((try (simp only [underG, true_and, and_true, Bool.cond_true_left, Bool.cond_false_left, Bool.cond_true_right, Bool.cond_false_right, Bool.or_eq_true, Bool.and_eq_true, Bool.or_eq_false_iff, Bool.and_eq_false_iff, cond_true, cond_false, Bool.not_eq_eq_eq_not, Bool.not_true, Bool.not_false, decide_eq_true_eq, decide_eq_false_iff_not, Int.toNat_natCast, Nat.zero_add, Decidable.not_not, maxL] at *)); first | omega | (rw [wrap64 (by omega) (by omega)]; first | rfl | omega | (simp; done) | (simp; omega))) | skip))
  · refine ⟨_, rfl, Rel.bool ?_⟩
    symm; rw [decide_eq_true_eq]
    exact list_ext_getD 0 (by omega) (fun j hj => hc j (by omega))
theorem fo24 (F : Func) : FO Try.prog 24 [.agg (encFunc F)] 1 (walkedF F).2.reverse.length (fun x => [iv ((walkedF F).2.reverse.getD x 0)]) := by
  refine FO_intro tok Try.func24 rfl (by decide +kernel) (Nat.le_of_ble_eq_true rfl) ?_
  ((repeat' first | refine AWp_seq ?_ | (refine AWp_reg tok (by rfl) ?_; conv => whnf) | (refine AWp_any tok mix (by rfl) ?_; conv => whnf) | refine AWp_block ?_ | (refine AWp_skip ?_; conv => whnf) | (refine AWp_exit ?_; conv => whnf) | (refine AWp_ret ?_; conv => whnf) | refine AWp_cond rfl (fun hb => ?_) (fun hb => ?_) | (refine @And.intro (underG _ _ _ _) _ ?_ ?_; rotate_left; (conv => whnf); rotate_right) | (refine fun (bn : Bool) (hbn : (0 < _ → bn = _)) => ?_; conv => whnf)); all_goals (try ((first | refine underG_none ?_ | (refine underG_some ?_; intro hgd; conv at hgd => whnf)); (first | refine And.intro (srcObl_rs rfl ?_) ?_ | refine And.intro srcObl_sl ?_ | refine And.intro srcObl_nsl ?_ | skip); (all_goals (try simp only [underG, true_and, and_true, Bool.cond_true_left, Bool.cond_false_left, Bool.cond_true_right, Bool.cond_false_right, Bool.or_eq_true, Bool.and_eq_true, Bool.or_eq_false_iff, Bool.and_eq_false_iff, cond_true, cond_false, Bool.not_eq_eq_eq_not, Bool.not_true, Bool.not_false, decide_eq_true_eq, decide_eq_false_iff_not, Int.toNat_natCast, Nat.zero_add, Decidable.not_not, maxL] at *)); all_goals omega)))
  refine .inr ⟨_, _, _, uG (QH.of (dead := []) [] (hc38 F) rfl .nil (.cons (.eq rfl) .nil) [(i0, (5, 1, 0)), (i1, (5, 2, 0)), (i2, (5, 3, 0))] rfl (.cons rfl (BLe.refl _) (.cons rfl (BLe.refl _) (.cons rfl (BLe.refl _) .nil))) rfl), ?_⟩
  conv => whnf
  ((repeat' first | refine AWp_seq ?_ | (refine AWp_reg tok (by rfl) ?_; conv => whnf) | (refine AWp_any tok mix (by rfl) ?_; conv => whnf) | refine AWp_block ?_ | (refine AWp_skip ?_; conv => whnf) | (refine AWp_exit ?_; conv => whnf) | (refine AWp_ret ?_; conv => whnf) | refine AWp_cond rfl (fun hb => ?_) (fun hb => ?_) | (refine @And.intro (underG _ _ _ _) _ ?_ ?_; rotate_left; (conv => whnf); rotate_right) | (refine fun (bn : Bool) (hbn : (0 < _ → bn = _)) => ?_; conv => whnf)); all_goals (try ((first | refine underG_none ?_ | (refine underG_some ?_; intro hgd; conv at hgd => whnf)); (first | refine And.intro (srcObl_rs rfl ?_) ?_ | refine And.intro srcObl_sl ?_ | refine And.intro srcObl_nsl ?_ | skip); (all_goals (try simp only [underG, true_and, and_true, Bool.cond_true_left, Bool.cond_false_left, Bool.cond_true_right, Bool.cond_false_right, Bool.or_eq_true, Bool.and_eq_true, Bool.or_eq_false_iff, Bool.and_eq_false_iff, cond_true, cond_false, Bool.not_eq_eq_eq_not, Bool.not_true, Bool.not_false, decide_eq_true_eq, decide_eq_false_iff_not, Int.toNat_natCast, Nat.zero_add, Decidable.not_not, maxL] at *)); all_goals omega)))
  generalize (walkedF F).2 = l
  refine .inr ⟨_, _, _, uG (QH.of (dead := []) [(i0, .old (5, 3, 0), irow l.length l)] (hc40 l) rfl (.old rfl (BLe.refl _) .nil) (.cons (.eq rfl) .nil) [(i0, (5, 3, 0))] rfl (.cons rfl (BLe.refl _) .nil) rfl), ?_⟩
  conv => whnf
  ((repeat' first | refine AWp_seq ?_ | (refine AWp_reg tok (by rfl) ?_; conv => whnf) | (refine AWp_any tok mix (by rfl) ?_; conv => whnf) | refine AWp_block ?_ | (refine AWp_skip ?_; conv => whnf) | (refine AWp_exit ?_; conv => whnf) | (refine AWp_ret ?_; conv => whnf) | refine AWp_cond rfl (fun hb => ?_) (fun hb => ?_) | (refine @And.intro (underG _ _ _ _) _ ?_ ?_; rotate_left; (conv => whnf); rotate_right) | (refine fun (bn : Bool) (hbn : (0 < _ → bn = _)) => ?_; conv => whnf)); all_goals (try ((first | refine underG_none ?_ | (refine underG_some ?_; intro hgd; conv at hgd => whnf)); (first | refine And.intro (srcObl_rs rfl ?_) ?_ | refine And.intro srcObl_sl ?_ | refine And.intro srcObl_nsl ?_ | skip); (all_goals (try simp only [underG, true_and, and_true, Bool.cond_true_left, Bool.cond_false_left, Bool.cond_true_right, Bool.cond_false_right, Bool.or_eq_true, Bool.and_eq_true, Bool.or_eq_false_iff, Bool.and_eq_false_iff, cond_true, cond_false, Bool.not_eq_eq_eq_not, Bool.not_true, Bool.not_false, decide_eq_true_eq, decide_eq_false_iff_not, Int.toNat_natCast, Nat.zero_add, Decidable.not_not, maxL] at *)); all_goals omega)))
  exact ⟨_, rfl, RelO.rs rfl (by simp) (by simp) (fun _ _ => rfl)⟩
end Go.Proofs.Ytmkiahbnfmpieaa
namespace Go.Proofs.Ytmkiahbnfmpieaa
open Go Dv
set_option maxRecDepth 10000
set_option linter.unusedSimpArgs false
inductive Reach (F : Func) : Nat → Prop where
  | zero : 0 < F.blocks.length → Reach F 0
  | step {n : Nat} {k : Int} : Reach F n → k ∈ next F n → Reach F k.toNat
open Classical in
noncomputable def reachB (F : Func) : List Bool := (List.range F.blocks.length).map fun i => decide (Reach F i)
theorem Reach.lt {F : Func} {n : Nat} (h : Reach F n) : n < F.blocks.length := by
  cases h with
  | zero h => exact h
  | step _ h => have := next_in h; omega
theorem reachB_len (F : Func) : (reachB F).length = F.blocks.length := by simp [reachB]
theorem reachB_get (F : Func) (i : Nat) : (reachB F).getD i false = true ↔ Reach F i := by
  unfold reachB
  rw [List.getD_eq_getElem?_getD, List.getElem?_map]
  by_cases h : i < F.blocks.length
  · simp [h]
  · simp [h]
    intro hr; exact absurd hr.lt (by omega)
/-- What holds just of what is reached. -/
theorem reachB_eq {F : Func} {o : List Bool} (len : o.length = F.blocks.length) (sound : ∀ i, o.getD i false = true → Reach F i) (zero : 0 < F.blocks.length → o.getD 0 false = true)
    (closed : ∀ (n : Nat) (k : Int), n < F.blocks.length → k ∈ next F n → o.getD n false = true → o.getD k.toNat false = true) : o = reachB F := by
  apply list_ext_getD false (by rw [len, reachB_len])
  intro i hi
  rw [Bool.eq_iff_iff, reachB_get]
  refine ⟨sound i, fun h => ?_⟩
  induction h with
  | zero h => exact zero h
  | step h hk ih => exact closed _ _ h.lt hk (ih (by rw [len]; exact h.lt))
structure WI (F : Func) (o0 o : List Bool) (m : Bool) (C : Prop) : Prop where
  len : o.length = F.blocks.length
  sound : ∀ i, o.getD i false = true → Reach F i
  zero : o.getD 0 false = true
  le : o.count false ≤ o0.count false
  dec : m = true → o.count false < o0.count false
  same : m = false → o = o0 ∧ C
def CN (F : Func) (o : List Bool) (n : Nat) : Prop := ∀ (n' : Nat) (k : Int), n' < n → k ∈ next F n' → o.getD n' false = true → o.getD k.toNat false = true
def CI (F : Func) (o : List Bool) (n i : Nat) : Prop := ∀ i', i' < i → o.getD n false = true → o.getD ((next F n).getD i' 0).toNat false = true
theorem WI.set {F : Func} {o0 o : List Bool} {m : Bool} {C C' : Prop} (h : WI F o0 o m C) {n : Nat} {k : Int} (hk : k ∈ next F n) (h1 : o.getD n false = true) (h2 : o.getD k.toNat false = false) : WI F o0 (o.set k.toNat true) true C' := by
  have hin := next_in hk
  have hl := h.len
  have hc := set_count (l := o) (i := k.toNat) (by omega) h2
  refine ⟨by simp [hl], fun i hi => ?_, ?_, by have := h.le; omega, fun _ => by have := h.le; omega, fun e => by cases e⟩
  · rw [getD_set] at hi
    by_cases e : k.toNat = i
    · rw [← e]; exact .step (h.sound n h1) hk
    · rw [if_neg (fun x => e x.1)] at hi; exact h.sound i hi
  · rw [getD_set]
    split
    · rfl
    · exact h.zero
theorem WI.weak {F : Func} {o0 o : List Bool} {m : Bool} {C C' : Prop} (h : WI F o0 o m C) (hc : m = false → C → C') : WI F o0 o m C' :=
  ⟨h.len, h.sound, h.zero, h.le, h.dec, fun e => ⟨(h.same e).1, hc e (h.same e).2⟩⟩
theorem fc39 (F : Func) : FC Try.prog 39 [.agg (encFunc F), iv (-1)] (bools (reachB F)) := by
  refine FC_intro tok Try.func39 rfl (by decide +kernel) (Nat.le_of_ble_eq_true rfl) ?_
  refine AWp_facts 0 (fun hl => ?_)
  have hl0 : F.blocks.length ≤ maxL := hl.2.2.1.1
  ((repeat' first | refine AWp_seq ?_ | (refine AWp_reg tok (by rfl) ?_; conv => whnf) | (refine AWp_any tok mix (by rfl) ?_; conv => whnf) | refine AWp_block ?_ | (refine AWp_skip ?_; conv => whnf) | (refine AWp_exit ?_; conv => whnf) | (refine AWp_ret ?_; conv => whnf) | refine AWp_cond rfl (fun hb => ?_) (fun hb => ?_) | (refine @And.intro (underG _ _ _ _) _ ?_ ?_; rotate_left; (conv => whnf); rotate_right) | (refine fun (bn : Bool) (hbn : (0 < _ → bn = _)) => ?_; conv => whnf)); all_goals (try ((first | refine underG_none ?_ | (refine underG_some ?_; intro hgd; conv at hgd => whnf)); (first | refine And.intro (srcObl_rs rfl ?_) ?_ | refine And.intro srcObl_sl ?_ | refine And.intro srcObl_nsl ?_ | skip); (all_goals (try simp only [underG, true_and, and_true, Bool.cond_true_left, Bool.cond_false_left, Bool.cond_true_right, Bool.cond_false_right, Bool.or_eq_true, Bool.and_eq_true, Bool.or_eq_false_iff, Bool.and_eq_false_iff, cond_true, cond_false, Bool.not_eq_eq_eq_not, Bool.not_true, Bool.not_false, decide_eq_true_eq, decide_eq_false_iff_not, Int.toNat_natCast, Nat.zero_add, Decidable.not_not, maxL] at *)); all_goals omega)))
  · refine ⟨_, rfl, Rel.row rfl rfl (by rw [reachB_len]; simp) (fun i hi => ?_)⟩
    rw [reachB_len] at hi
    simp only [underG, true_and, and_true, Bool.cond_true_left, Bool.cond_false_left, Bool.cond_true_right, Bool.cond_false_right, Bool.or_eq_true, Bool.and_eq_true, Bool.or_eq_false_iff, Bool.and_eq_false_iff, cond_true, cond_false, Bool.not_eq_eq_eq_not, Bool.not_true, Bool.not_false, decide_eq_true_eq, decide_eq_false_iff_not, Int.toNat_natCast, Nat.zero_add, Decidable.not_not, maxL] at *
    omega
  have hz : 0 < F.blocks.length := by simp only [underG, true_and, and_true, Bool.cond_true_left, Bool.cond_false_left, Bool.cond_true_right, Bool.cond_false_right, Bool.or_eq_true, Bool.and_eq_true, Bool.or_eq_false_iff, Bool.and_eq_false_iff, cond_true, cond_false, Bool.not_eq_eq_eq_not, Bool.not_true, Bool.not_false, decide_eq_true_eq, decide_eq_false_iff_not, Int.toNat_natCast, Nat.zero_add, Decidable.not_not, maxL] at *; omega
  let S1 : List Bool × Bool → ASt := fun s => mkS [(1, iv (-1)), (2, .bp (2, 0, 0) 0), (5, .rs (13, 0, 0) 1 0 F.blocks.length), (6, .bool s.2)] [((2, 0, 0), fbox F), ((13, 0, 0), brow F.blocks.length s.1)]
  refine AWp_loop S1
    (fun s => s.1.length = F.blocks.length ∧ (∀ i, s.1.getD i false = true → Reach F i) ∧ s.1.getD 0 false = true ∧ (s.2 = false → CN F s.1 F.blocks.length)) (fun s => 2 * s.1.count false + s.2.toNat)
    ((List.replicate F.blocks.length false).set 0 true, true) ?_ ?_ ?_
  · refine ⟨by simp, fun i hi => ?_, ?_, fun e => by cases e⟩
    · rw [getD_set] at hi
      by_cases e : 0 = i
      · subst e; exact .zero hz
      · rw [if_neg (fun x => e x.1)] at hi
        rw [List.getD_eq_getElem?_getD, List.getElem?_replicate] at hi
        split at hi <;> cases hi
    · rw [getD_set, if_pos ⟨rfl, by simpa using hz⟩]
  · refine Weak.list [((2, 0, 0), .old (2, 0, 0), fbox F), ((13, 0, 0), .old (13, 0, 0), brow F.blocks.length ((List.replicate F.blocks.length false).set 0 true))] rfl (by rfl) ?_ (.old rfl (BLe.refl _) (.old rfl (BLe.row (by simp) (fun x hx => ?_)) .nil))
    · ((repeat' first | exact TLes.nil | refine TLes.cons (TLe.eq rfl) ?_ | refine TLes.cons (TLe.nilL rfl ?_) ?_ | refine TLes.cons (TLe.rsL rfl ?_) ?_ | refine TLes.cons (TLe.int ?_) ?_ | refine TLes.cons (TLe.bool ?_) ?_); (all_goals first | rfl | ((try (simp only [underG, true_and, and_true, Bool.cond_true_left, Bool.cond_false_left, Bool.cond_true_right, Bool.cond_false_right, Bool.or_eq_true, Bool.and_eq_true, Bool.or_eq_false_iff, Bool.and_eq_false_iff, cond_true, cond_false, Bool.not_eq_eq_eq_not, Bool.not_true, Bool.not_false, decide_eq_true_eq, decide_eq_false_iff_not, Int.toNat_natCast, Nat.zero_add, Decidable.not_not, maxL] at *)); first | omega | (rw [wrap64 (by omega) (by omega)]; first | rfl | omega | (simp; done) | (simp; omega))) | skip))
    · show updR (fun _ => [AV.bool false]) 0 [AV.bool true] x = _
      rw [updR_congr (g := fun x => [.bool ((List.replicate F.blocks.length false).getD x false)])]
      · exact upd_row (e := fun b => [.bool b]) (by simpa using hz) x
      · rw [List.getD_eq_getElem?_getD, List.getElem?_replicate]
        split <;> rfl
  rintro ⟨o0, m0⟩ ⟨h1, h2, h3, h4⟩
  dsimp only at h1 h2 h3 h4
  ((repeat' first | refine AWp_seq ?_ | (refine AWp_reg tok (by rfl) ?_; conv => whnf) | (refine AWp_any tok mix (by rfl) ?_; conv => whnf) | refine AWp_block ?_ | (refine AWp_skip ?_; conv => whnf) | (refine AWp_exit ?_; conv => whnf) | (refine AWp_ret ?_; conv => whnf) | refine AWp_cond rfl (fun hb => ?_) (fun hb => ?_) | (refine @And.intro (underG _ _ _ _) _ ?_ ?_; rotate_left; (conv => whnf); rotate_right) | (refine fun (bn : Bool) (hbn : (0 < _ → bn = _)) => ?_; conv => whnf)); all_goals (try ((first | refine underG_none ?_ | (refine underG_some ?_; intro hgd; conv at hgd => whnf)); (first | refine And.intro (srcObl_rs rfl ?_) ?_ | refine And.intro srcObl_sl ?_ | refine And.intro srcObl_nsl ?_ | skip); (all_goals (try simp only [underG, true_and, and_true, Bool.cond_true_left, Bool.cond_false_left, Bool.cond_true_right, Bool.cond_false_right, Bool.or_eq_true, Bool.and_eq_true, Bool.or_eq_false_iff, Bool.and_eq_false_iff, cond_true, cond_false, Bool.not_eq_eq_eq_not, Bool.not_true, Bool.not_false, decide_eq_true_eq, decide_eq_false_iff_not, Int.toNat_natCast, Nat.zero_add, Decidable.not_not, maxL] at *)); all_goals omega)))
  · -- a round
    refine AWp_loop (fun s : Nat × List Bool × Bool => mkS [(1, iv (-1)), (2, .bp (2, 0, 0) 0), (5, .rs (13, 0, 0) 1 0 F.blocks.length), (6, .bool s.2.2), (7, iv s.1)] [((2, 0, 0), fbox F), ((13, 0, 0), brow F.blocks.length s.2.1)])
      (fun s => s.1 ≤ F.blocks.length ∧ WI F o0 s.2.1 s.2.2 (CN F o0 s.1)) (fun s => F.blocks.length - s.1) (0, o0, false) ?_ ?_ ?_
    · exact ⟨Nat.zero_le _, h1, h2, h3, Nat.le_refl _, fun e => (by cases e), fun _ => ⟨rfl, fun n' k h => absurd h (Nat.not_lt_zero _)⟩⟩
    · refine Weak.list [((2, 0, 0), .old (2, 0, 0), fbox F), ((13, 0, 0), .old (13, 0, 0), brow F.blocks.length o0)] rfl (by rfl) ?_ (.old rfl (BLe.refl _) (.old rfl (BLe.refl _) .nil))
      ((repeat' first | exact TLes.nil | refine TLes.cons (TLe.eq rfl) ?_ | refine TLes.cons (TLe.nilL rfl ?_) ?_ | refine TLes.cons (TLe.rsL rfl ?_) ?_ | refine TLes.cons (TLe.int ?_) ?_ | refine TLes.cons (TLe.bool ?_) ?_); (all_goals first | rfl | ((try (simp only [underG, true_and, and_true, Bool.cond_true_left, Bool.cond_false_left, Bool.cond_true_right, Bool.cond_false_right, Bool.or_eq_true, Bool.and_eq_true, Bool.or_eq_false_iff, Bool.and_eq_false_iff, cond_true, cond_false, Bool.not_eq_eq_eq_not, Bool.not_true, Bool.not_false, decide_eq_true_eq, decide_eq_false_iff_not, Int.toNat_natCast, Nat.zero_add, Decidable.not_not, maxL] at *)); first | omega | (rw [wrap64 (by omega) (by omega)]; first | rfl | omega | (simp; done) | (simp; omega))) | skip))
    rintro ⟨n, o1, m1⟩ ⟨hn, hw1⟩
    dsimp only at hn hw1
    ((repeat' first | refine AWp_seq ?_ | (refine AWp_reg tok (by rfl) ?_; conv => whnf) | (refine AWp_any tok mix (by rfl) ?_; conv => whnf) | refine AWp_block ?_ | (refine AWp_skip ?_; conv => whnf) | (refine AWp_exit ?_; conv => whnf) | (refine AWp_ret ?_; conv => whnf) | refine AWp_cond rfl (fun hb => ?_) (fun hb => ?_) | (refine @And.intro (underG _ _ _ _) _ ?_ ?_; rotate_left; (conv => whnf); rotate_right) | (refine fun (bn : Bool) (hbn : (0 < _ → bn = _)) => ?_; conv => whnf)); all_goals (try ((first | refine underG_none ?_ | (refine underG_some ?_; intro hgd; conv at hgd => whnf)); (first | refine And.intro (srcObl_rs rfl ?_) ?_ | refine And.intro srcObl_sl ?_ | refine And.intro srcObl_nsl ?_ | skip); (all_goals (try simp only [underG, true_and, and_true, Bool.cond_true_left, Bool.cond_false_left, Bool.cond_true_right, Bool.cond_false_right, Bool.or_eq_true, Bool.and_eq_true, Bool.or_eq_false_iff, Bool.and_eq_false_iff, cond_true, cond_false, Bool.not_eq_eq_eq_not, Bool.not_true, Bool.not_false, decide_eq_true_eq, decide_eq_false_iff_not, Int.toNat_natCast, Nat.zero_add, Decidable.not_not, maxL] at *)); all_goals omega)))
    · refine .inl ⟨_, _, _, uG (QC.fc (fc18 F n) rfl), ?_⟩
      conv => whnf
      ((repeat' first | refine AWp_seq ?_ | (refine AWp_reg tok (by rfl) ?_; conv => whnf) | (refine AWp_any tok mix (by rfl) ?_; conv => whnf) | refine AWp_block ?_ | (refine AWp_skip ?_; conv => whnf) | (refine AWp_exit ?_; conv => whnf) | (refine AWp_ret ?_; conv => whnf) | refine AWp_cond rfl (fun hb => ?_) (fun hb => ?_) | (refine @And.intro (underG _ _ _ _) _ ?_ ?_; rotate_left; (conv => whnf); rotate_right) | (refine fun (bn : Bool) (hbn : (0 < _ → bn = _)) => ?_; conv => whnf)); all_goals (try ((first | refine underG_none ?_ | (refine underG_some ?_; intro hgd; conv at hgd => whnf)); (first | refine And.intro (srcObl_rs rfl ?_) ?_ | refine And.intro srcObl_sl ?_ | refine And.intro srcObl_nsl ?_ | skip); (all_goals (try simp only [underG, true_and, and_true, Bool.cond_true_left, Bool.cond_false_left, Bool.cond_true_right, Bool.cond_false_right, Bool.or_eq_true, Bool.and_eq_true, Bool.or_eq_false_iff, Bool.and_eq_false_iff, cond_true, cond_false, Bool.not_eq_eq_eq_not, Bool.not_true, Bool.not_false, decide_eq_true_eq, decide_eq_false_iff_not, Int.toNat_natCast, Nat.zero_add, Decidable.not_not, maxL] at *)); all_goals omega)))
      refine AWp_facts 8 (fun hm => ?_)
      have hNl : (next F (n : Int)).length ≤ maxL := hm.1
      clear hm
      refine AWp_loop (fun s : Nat × List Bool × Bool => mkS [(1, iv (-1)), (2, .bp (2, 0, 0) 0), (5, .rs (13, 0, 0) 1 0 F.blocks.length), (6, .bool s.2.2), (7, iv n), (8, ints (next F n)), (9, iv s.1)] [((2, 0, 0), fbox F), ((13, 0, 0), brow F.blocks.length s.2.1)])
        (fun s => s.1 ≤ (next F n).length ∧ WI F o0 s.2.1 s.2.2 (CN F o0 n ∧ CI F o0 n s.1)) (fun s => (next F n).length - s.1) (0, o1, m1) ?_ ?_ ?_
      · exact ⟨Nat.zero_le _, hw1.weak (fun _ h => ⟨h, fun i' h => absurd h (Nat.not_lt_zero _)⟩)⟩
      · refine Weak.list [((2, 0, 0), .old (2, 0, 0), fbox F), ((13, 0, 0), .old (13, 0, 0), brow F.blocks.length o1)] rfl (by rfl) ?_ (.old rfl (BLe.refl _) (.old rfl (BLe.refl _) .nil))
        ((repeat' first | exact TLes.nil | refine TLes.cons (TLe.eq rfl) ?_ | refine TLes.cons (TLe.nilL rfl ?_) ?_ | refine TLes.cons (TLe.rsL rfl ?_) ?_ | refine TLes.cons (TLe.int ?_) ?_ | refine TLes.cons (TLe.bool ?_) ?_); (all_goals first | rfl | ((try (simp only [underG, true_and, and_true, Bool.cond_true_left, Bool.cond_false_left, Bool.cond_true_right, Bool.cond_false_right, Bool.or_eq_true, Bool.and_eq_true, Bool.or_eq_false_iff, Bool.and_eq_false_iff, cond_true, cond_false, Bool.not_eq_eq_eq_not, Bool.not_true, Bool.not_false, decide_eq_true_eq, decide_eq_false_iff_not, Int.toNat_natCast, Nat.zero_add, Decidable.not_not, maxL] at *)); first | omega | (rw [wrap64 (by omega) (by omega)]; first | rfl | omega | (simp; done) | (simp; omega))) | skip))
      rintro ⟨i, o2, m2⟩ ⟨hi, hw2⟩
      dsimp only at hi hw2
      have hmem : i < (next F (n : Int)).length → (next F (n : Int)).getD i 0 ∈ next F n := fun h => by rw [getD_lt 0 h]; exact List.getElem_mem h
      have hin : i < (next F (n : Int)).length → 0 ≤ (next F (n : Int)).getD i 0 ∧ (next F (n : Int)).getD i 0 < F.blocks.length := fun h => next_in (hmem h)
      have hlen := hw2.len
      ((repeat' first | refine AWp_seq ?_ | (refine AWp_reg tok (by rfl) ?_; conv => whnf) | (refine AWp_any tok mix (by rfl) ?_; conv => whnf) | refine AWp_block ?_ | (refine AWp_skip ?_; conv => whnf) | (refine AWp_exit ?_; conv => whnf) | (refine AWp_ret ?_; conv => whnf) | refine AWp_cond rfl (fun hb => ?_) (fun hb => ?_) | (refine @And.intro (underG _ _ _ _) _ ?_ ?_; rotate_left; (conv => whnf); rotate_right) | (refine fun (bn : Bool) (hbn : (0 < _ → bn = _)) => ?_; conv => whnf)); all_goals (try ((first | refine underG_none ?_ | (refine underG_some ?_; intro hgd; conv at hgd => whnf)); (first | refine And.intro (srcObl_rs rfl ?_) ?_ | refine And.intro srcObl_sl ?_ | refine And.intro srcObl_nsl ?_ | skip); (all_goals (try simp only [underG, true_and, and_true, Bool.cond_true_left, Bool.cond_false_left, Bool.cond_true_right, Bool.cond_false_right, Bool.or_eq_true, Bool.and_eq_true, Bool.or_eq_false_iff, Bool.and_eq_false_iff, cond_true, cond_false, Bool.not_eq_eq_eq_not, Bool.not_true, Bool.not_false, decide_eq_true_eq, decide_eq_false_iff_not, Int.toNat_natCast, Nat.zero_add, Decidable.not_not, maxL] at *)); all_goals omega)))
      · rename_i hlt
        have hlt' : i < (next F (n : Int)).length := by simp only [underG, true_and, and_true, Bool.cond_true_left, Bool.cond_false_left, Bool.cond_true_right, Bool.cond_false_right, Bool.or_eq_true, Bool.and_eq_true, Bool.or_eq_false_iff, Bool.and_eq_false_iff, cond_true, cond_false, Bool.not_eq_eq_eq_not, Bool.not_true, Bool.not_false, decide_eq_true_eq, decide_eq_false_iff_not, Int.toNat_natCast, Nat.zero_add, Decidable.not_not, maxL] at *; omega
        simp only [underG, true_and, and_true, Bool.cond_true_left, Bool.cond_false_left, Bool.cond_true_right, Bool.cond_false_right, Bool.or_eq_true, Bool.and_eq_true, Bool.or_eq_false_iff, Bool.and_eq_false_iff, cond_true, cond_false, Bool.not_eq_eq_eq_not, Bool.not_true, Bool.not_false, decide_eq_true_eq, decide_eq_false_iff_not, Int.toNat_natCast, Nat.zero_add, Decidable.not_not, maxL] at *
        obtain ⟨⟨b1, b2⟩, b3⟩ := hb
        refine ⟨(i + 1, o2.set ((next F (n : Int)).getD i 0).toNat true, true), ⟨by dsimp only; omega, hw2.set (hmem hlt') b1 b3⟩, by dsimp only; omega, ?_⟩
        refine Weak.list [((2, 0, 0), .old (2, 0, 0), fbox F), ((13, 0, 0), .old (13, 0, 0), brow F.blocks.length (o2.set ((next F (n : Int)).getD i 0).toNat true))] rfl (by rfl) ?_ (.old rfl (BLe.refl _) (.old rfl (BLe.row rfl (fun x hx => ?_)) .nil))
        · ((repeat' first | exact TLes.nil | refine TLes.cons (TLe.eq rfl) ?_ | refine TLes.cons (TLe.nilL rfl ?_) ?_ | refine TLes.cons (TLe.rsL rfl ?_) ?_ | refine TLes.cons (TLe.int ?_) ?_ | refine TLes.cons (TLe.bool ?_) ?_); (all_goals first | rfl | ((try (simp only [underG, true_and, and_true, Bool.cond_true_left, Bool.cond_false_left, Bool.cond_true_right, Bool.cond_false_right, Bool.or_eq_true, Bool.and_eq_true, Bool.or_eq_false_iff, Bool.and_eq_false_iff, cond_true, cond_false, Bool.not_eq_eq_eq_not, Bool.not_true, Bool.not_false, decide_eq_true_eq, decide_eq_false_iff_not, Int.toNat_natCast, Nat.zero_add, Decidable.not_not, maxL] at *)); first | omega | (rw [wrap64 (by omega) (by omega)]; first | rfl | omega | (simp; done) | (simp; omega))) | skip))
        · exact upd_row' (fun b => [.bool b]) false o2 (k' := ((next F (n : Int)).getD i 0).toNat) (by omega) (by simp) rfl x
      · rename_i hlt
        have hlt' : i < (next F (n : Int)).length := by simp only [underG, true_and, and_true, Bool.cond_true_left, Bool.cond_false_left, Bool.cond_true_right, Bool.cond_false_right, Bool.or_eq_true, Bool.and_eq_true, Bool.or_eq_false_iff, Bool.and_eq_false_iff, cond_true, cond_false, Bool.not_eq_eq_eq_not, Bool.not_true, Bool.not_false, decide_eq_true_eq, decide_eq_false_iff_not, Int.toNat_natCast, Nat.zero_add, Decidable.not_not, maxL] at *; omega
        refine ⟨(i + 1, o2, m2), ⟨by dsimp only; omega, hw2.weak (fun hm2 hc => ⟨hc.1, fun i' hi' => ?_⟩)⟩, by dsimp only; omega, ?_⟩
        · by_cases e : i' = i
          · subst e
            intro hn0
            have hbx := hb
            have h0 := (hw2.same hm2).1
            subst h0
            cases hx : o2.getD ((next F (n : Int)).getD i' 0).toNat false with
            | true => rfl
            | false =>
              have hne : ¬ (next F (n : Int)).getD i' 0 = -1 := by omega
              have hb2 : (bif bif o2.getD n false then !decide ((next F (n : Int)).getD i' 0 = -1) else false then !o2.getD ((next F (n : Int)).getD i' 0).toNat false else false) = false := by
                simp only [Nat.zero_add, Int.toNat_natCast] at hbx; exact hbx
              rw [hn0, hx, decide_eq_false hne] at hb2
              exact absurd hb2 (by decide)
          · exact hc.2 i' (by omega)
        · refine Weak.list [((2, 0, 0), .old (2, 0, 0), fbox F), ((13, 0, 0), .old (13, 0, 0), brow F.blocks.length o2)] rfl (by rfl) ?_ (.old rfl (BLe.refl _) (.old rfl (BLe.refl _) .nil))
          ((repeat' first | exact TLes.nil | refine TLes.cons (TLe.eq rfl) ?_ | refine TLes.cons (TLe.nilL rfl ?_) ?_ | refine TLes.cons (TLe.rsL rfl ?_) ?_ | refine TLes.cons (TLe.int ?_) ?_ | refine TLes.cons (TLe.bool ?_) ?_); (all_goals first | rfl | ((try (simp only [underG, true_and, and_true, Bool.cond_true_left, Bool.cond_false_left, Bool.cond_true_right, Bool.cond_false_right, Bool.or_eq_true, Bool.and_eq_true, Bool.or_eq_false_iff, Bool.and_eq_false_iff, cond_true, cond_false, Bool.not_eq_eq_eq_not, Bool.not_true, Bool.not_false, decide_eq_true_eq, decide_eq_false_iff_not, Int.toNat_natCast, Nat.zero_add, Decidable.not_not, maxL] at *)); first | omega | (rw [wrap64 (by omega) (by omega)]; first | rfl | omega | (simp; done) | (simp; omega))) | skip))
      · have e : i = (next F (n : Int)).length := by simp only [underG, true_and, and_true, Bool.cond_true_left, Bool.cond_false_left, Bool.cond_true_right, Bool.cond_false_right, Bool.or_eq_true, Bool.and_eq_true, Bool.or_eq_false_iff, Bool.and_eq_false_iff, cond_true, cond_false, Bool.not_eq_eq_eq_not, Bool.not_true, Bool.not_false, decide_eq_true_eq, decide_eq_false_iff_not, Int.toNat_natCast, Nat.zero_add, Decidable.not_not, maxL] at *; omega
        rename_i hnl _
        have hnl' : n < F.blocks.length := by simp only [underG, true_and, and_true, Bool.cond_true_left, Bool.cond_false_left, Bool.cond_true_right, Bool.cond_false_right, Bool.or_eq_true, Bool.and_eq_true, Bool.or_eq_false_iff, Bool.and_eq_false_iff, cond_true, cond_false, Bool.not_eq_eq_eq_not, Bool.not_true, Bool.not_false, decide_eq_true_eq, decide_eq_false_iff_not, Int.toNat_natCast, Nat.zero_add, Decidable.not_not, maxL] at *; omega
        subst e
        refine ⟨(n + 1, o2, m2), ⟨by dsimp only; omega, hw2.weak (fun hm2 hc n' k hn' hk h0 => ?_)⟩, by dsimp only; omega, ?_⟩
        · by_cases e : n' = n
          · subst e
            obtain ⟨j, hj, rfl⟩ := List.getElem_of_mem hk
            have := hc.2 j hj h0
            rwa [getD_lt 0 hj] at this
          · exact hc.1 n' k (by omega) hk h0
        · refine Weak.list [((2, 0, 0), .old (2, 0, 0), fbox F), ((13, 0, 0), .old (13, 0, 0), brow F.blocks.length o2)] rfl (by rfl) ?_ (.old rfl (BLe.refl _) (.old rfl (BLe.refl _) .nil))
          ((repeat' first | exact TLes.nil | refine TLes.cons (TLe.eq rfl) ?_ | refine TLes.cons (TLe.nilL rfl ?_) ?_ | refine TLes.cons (TLe.rsL rfl ?_) ?_ | refine TLes.cons (TLe.int ?_) ?_ | refine TLes.cons (TLe.bool ?_) ?_); (all_goals first | rfl | ((try (simp only [underG, true_and, and_true, Bool.cond_true_left, Bool.cond_false_left, Bool.cond_true_right, Bool.cond_false_right, Bool.or_eq_true, Bool.and_eq_true, Bool.or_eq_false_iff, Bool.and_eq_false_iff, cond_true, cond_false, Bool.not_eq_eq_eq_not, Bool.not_true, Bool.not_false, decide_eq_true_eq, decide_eq_false_iff_not, Int.toNat_natCast, Nat.zero_add, Decidable.not_not, maxL] at *)); first | omega | (rw [wrap64 (by omega) (by omega)]; first | rfl | omega | (simp; done) | (simp; omega))) | skip))
    · have e : n = F.blocks.length := by simp only [underG, true_and, and_true, Bool.cond_true_left, Bool.cond_false_left, Bool.cond_true_right, Bool.cond_false_right, Bool.or_eq_true, Bool.and_eq_true, Bool.or_eq_false_iff, Bool.and_eq_false_iff, cond_true, cond_false, Bool.not_eq_eq_eq_not, Bool.not_true, Bool.not_false, decide_eq_true_eq, decide_eq_false_iff_not, Int.toNat_natCast, Nat.zero_add, Decidable.not_not, maxL] at *; omega
      subst e
      refine ⟨(o1, m1), ⟨hw1.len, hw1.sound, hw1.zero, fun e => by obtain ⟨rfl, h⟩ := hw1.same e; exact h⟩, ?_, ?_⟩
      · have := hw1.le
        rename_i hm0
        dsimp only at hm0 ⊢
        subst hm0
        cases m1 with
        | true => have := hw1.dec rfl; simp; omega
        | false => simp; omega
      · refine Weak.list [((2, 0, 0), .old (2, 0, 0), fbox F), ((13, 0, 0), .old (13, 0, 0), brow F.blocks.length o1)] rfl (by rfl) ?_ (.old rfl (BLe.refl _) (.old rfl (BLe.refl _) .nil))
        ((repeat' first | exact TLes.nil | refine TLes.cons (TLe.eq rfl) ?_ | refine TLes.cons (TLe.nilL rfl ?_) ?_ | refine TLes.cons (TLe.rsL rfl ?_) ?_ | refine TLes.cons (TLe.int ?_) ?_ | refine TLes.cons (TLe.bool ?_) ?_); (all_goals first | rfl | ((try (simp only [underG, true_and, and_true, Bool.cond_true_left, Bool.cond_false_left, Bool.cond_true_right, Bool.cond_false_right, Bool.or_eq_true, Bool.and_eq_true, Bool.or_eq_false_iff, Bool.and_eq_false_iff, cond_true, cond_false, Bool.not_eq_eq_eq_not, Bool.not_true, Bool.not_false, decide_eq_true_eq, decide_eq_false_iff_not, Int.toNat_natCast, Nat.zero_add, Decidable.not_not, maxL] at *)); first | omega | (rw [wrap64 (by omega) (by omega)]; first | rfl | omega | (simp; done) | (simp; omega))) | skip))
  · -- the end
    dsimp only at hb
    have e := reachB_eq h1 h2 (fun _ => h3) (h4 hb)
    subst e
    exact ⟨_, rfl, Rel.row rfl rfl (by rw [reachB_len]) (fun _ _ => rfl)⟩
theorem fc23 (F : Func) : FC Try.prog 23 [.agg (encFunc F)] (bools (reachB F)) := by
  refine FC_intro tok Try.func23 rfl (by decide +kernel) (Nat.le_of_ble_eq_true rfl) ?_
  ((repeat' first | refine AWp_seq ?_ | (refine AWp_reg tok (by rfl) ?_; conv => whnf) | (refine AWp_any tok mix (by rfl) ?_; conv => whnf) | refine AWp_block ?_ | (refine AWp_skip ?_; conv => whnf) | (refine AWp_exit ?_; conv => whnf) | (refine AWp_ret ?_; conv => whnf) | refine AWp_cond rfl (fun hb => ?_) (fun hb => ?_) | (refine @And.intro (underG _ _ _ _) _ ?_ ?_; rotate_left; (conv => whnf); rotate_right) | (refine fun (bn : Bool) (hbn : (0 < _ → bn = _)) => ?_; conv => whnf)); all_goals (try ((first | refine underG_none ?_ | (refine underG_some ?_; intro hgd; conv at hgd => whnf)); (first | refine And.intro (srcObl_rs rfl ?_) ?_ | refine And.intro srcObl_sl ?_ | refine And.intro srcObl_nsl ?_ | skip); (all_goals (try simp only [underG, true_and, and_true, Bool.cond_true_left, Bool.cond_false_left, Bool.cond_true_right, Bool.cond_false_right, Bool.or_eq_true, Bool.and_eq_true, Bool.or_eq_false_iff, Bool.and_eq_false_iff, cond_true, cond_false, Bool.not_eq_eq_eq_not, Bool.not_true, Bool.not_false, decide_eq_true_eq, decide_eq_false_iff_not, Int.toNat_natCast, Nat.zero_add, Decidable.not_not, maxL] at *)); all_goals omega)))
  refine .inl ⟨_, _, _, uG (QC.fc (fc39 F) rfl), ?_⟩
  conv => whnf
  ((repeat' first | refine AWp_seq ?_ | (refine AWp_reg tok (by rfl) ?_; conv => whnf) | (refine AWp_any tok mix (by rfl) ?_; conv => whnf) | refine AWp_block ?_ | (refine AWp_skip ?_; conv => whnf) | (refine AWp_exit ?_; conv => whnf) | (refine AWp_ret ?_; conv => whnf) | refine AWp_cond rfl (fun hb => ?_) (fun hb => ?_) | (refine @And.intro (underG _ _ _ _) _ ?_ ?_; rotate_left; (conv => whnf); rotate_right) | (refine fun (bn : Bool) (hbn : (0 < _ → bn = _)) => ?_; conv => whnf)); all_goals (try ((first | refine underG_none ?_ | (refine underG_some ?_; intro hgd; conv at hgd => whnf)); (first | refine And.intro (srcObl_rs rfl ?_) ?_ | refine And.intro srcObl_sl ?_ | refine And.intro srcObl_nsl ?_ | skip); (all_goals (try simp only [underG, true_and, and_true, Bool.cond_true_left, Bool.cond_false_left, Bool.cond_true_right, Bool.cond_false_right, Bool.or_eq_true, Bool.and_eq_true, Bool.or_eq_false_iff, Bool.and_eq_false_iff, cond_true, cond_false, Bool.not_eq_eq_eq_not, Bool.not_true, Bool.not_false, decide_eq_true_eq, decide_eq_false_iff_not, Int.toNat_natCast, Nat.zero_add, Decidable.not_not, maxL] at *)); all_goals omega)))
  exact ⟨_, rfl, Rel.imm rfl⟩
end Go.Proofs.Ytmkiahbnfmpieaa
namespace Go.Proofs.Ytmkiahbnfmpieaa
open Go Dv
set_option maxRecDepth 10000
set_option linter.unusedSimpArgs false
theorem count_zero {l : List Bool} {i : Nat} (h : l.count false = 0) (hi : i < l.length) : l.getD i false = true := by
  rw [getD_lt false hi]
  have := List.count_eq_zero.1 h
  cases e : l[i] with
  | true => rfl
  | false => exact absurd (by rw [← e]; exact List.getElem_mem hi) this
theorem fold_fuel {F : Func} {f1 f2 : Nat} (ih : ∀ (n : Int) (s : List Bool × List Int), s.1.length = F.blocks.length → 0 ≤ n → n < F.blocks.length → s.1.count false ≤ f1 → s.1.count false ≤ f2 → into F (f1 + 1) n s = into F (f2 + 1) n s) :
    ∀ (l : List Int) (s : List Bool × List Int), s.1.length = F.blocks.length → (∀ k ∈ l, 0 ≤ k ∧ k < F.blocks.length) → s.1.count false ≤ f1 → s.1.count false ≤ f2 →
      l.foldl (fun s k => into F (f1 + 1) k s) s = l.foldl (fun s k => into F (f2 + 1) k s) s
  | [], _, _, _, _, _ => rfl
  | k :: l, s, h, hk, h1, h2 => by
      have e := ih k s h (hk k (by simp)).1 (hk k (by simp)).2 h1 h2
      have hkeep := into_keeps F (f1 + 1) k s h (hk k (by simp)).1 (hk k (by simp)).2
      simp only [List.foldl_cons]
      rw [← e]
      exact fold_fuel ih l _ hkeep.1 (fun x hx => hk x (by simp [hx])) (Nat.le_trans hkeep.2.2 h1) (Nat.le_trans hkeep.2.2 h2)
theorem into_fuel {F : Func} : ∀ (f1 f2 : Nat) (n : Int) (s : List Bool × List Int), s.1.length = F.blocks.length → 0 ≤ n → n < F.blocks.length → s.1.count false ≤ f1 → s.1.count false ≤ f2 → into F (f1 + 1) n s = into F (f2 + 1) n s := by
  intro f1
  induction f1 with
  | zero =>
    rintro f2 n ⟨seen, left⟩ hl h0 h1 c1 _
    dsimp only at hl c1
    have : seen.getD n.toNat false = true := count_zero (by omega) (by omega)
    simp only [into, this, if_true]
  | succ f1 ih =>
    rintro f2 n ⟨seen, left⟩ hl h0 h1 c1 c2
    dsimp only at hl c1 c2
    by_cases hs : seen.getD n.toNat false = true
    · simp only [into, hs, if_true]
    · have hs' : seen.getD n.toNat false = false := by simpa using hs
      have hc := set_count (l := seen) (i := n.toNat) (by omega) hs'
      obtain ⟨g, rfl⟩ : ∃ g, f2 = g + 1 := ⟨f2 - 1, by omega⟩
      have := fold_fuel (F := F) (f1 := f1) (f2 := g) (ih g) (next F n) (seen.set n.toNat true, left) (by simpa using hl) (fun k hk => next_in hk) (by dsimp only; omega) (by dsimp only; omega)
      rw [into, into]
      simp only [hs', Bool.false_eq_true, if_false, this]
/-- into a block, with enough to go. -/
def intoS (F : Func) (n : Int) (s : List Bool × List Int) : List Bool × List Int := into F (F.blocks.length + 1) n s
theorem intoS_seen {F : Func} {n : Int} {s : List Bool × List Int} (h : s.1.getD n.toNat false = true) : intoS F n s = s := by
  unfold intoS; obtain ⟨a, b⟩ := s; dsimp only at h; simp only [into, h, if_true]
theorem intoS_new {F : Func} {n : Int} {seen : List Bool} {left : List Int} (hl : seen.length = F.blocks.length) (h0 : 0 ≤ n) (h1 : n < F.blocks.length) (h : seen.getD n.toNat false = false) :
    intoS F n (seen, left) = (((next F n).foldl (fun s k => intoS F k s) (seen.set n.toNat true, left)).1, ((next F n).foldl (fun s k => intoS F k s) (seen.set n.toNat true, left)).2 ++ [n]) := by
  have hc := set_count (l := seen) (i := n.toNat) (by omega) h
  have hle : seen.count false ≤ seen.length := List.count_le_length
  obtain ⟨m, hm⟩ : ∃ m, F.blocks.length = m + 1 := ⟨F.blocks.length - 1, by omega⟩
  have := fold_fuel (F := F) (f1 := m) (f2 := m + 1) (into_fuel m (m + 1)) (next F n) (seen.set n.toNat true, left) (by simpa using hl) (fun k hk => next_in hk) (by dsimp only; omega) (by dsimp only; omega)
  unfold intoS
  rw [hm, into]
  simp only [h, Bool.false_eq_true, if_false, this]
/-- what is still to be done: frames, the top one first, each with what was looked at -/
def fin (F : Func) : List (Int × Nat) → List Bool × List Int → List Bool × List Int
  | [], s => s
  | (n, k) :: r, s => let s1 := ((next F n).drop k).foldl (fun s k => intoS F k s) s; fin F r (s1.1, s1.2 ++ [n])
theorem fin_pop {F : Func} {n : Int} {k : Nat} {r : List (Int × Nat)} {s : List Bool × List Int} (h : k = (next F n).length) : fin F ((n, k) :: r) s = fin F r (s.1, s.2 ++ [n]) := by
  subst h; simp only [fin, List.drop_length, List.foldl_nil]
theorem drop_getD {α : Type} {l : List α} {k : Nat} (d : α) (h : k < l.length) : l.drop k = l.getD k d :: l.drop (k + 1) := by
  rw [List.drop_eq_getElem_cons h, getD_lt d h]
theorem fin_skip {F : Func} {n : Int} {k : Nat} {r : List (Int × Nat)} {s : List Bool × List Int} (h : k < (next F n).length) (hs : s.1.getD ((next F n).getD k 0).toNat false = true) :
    fin F ((n, k) :: r) s = fin F ((n, k + 1) :: r) s := by
  simp only [fin]; rw [drop_getD 0 h, List.foldl_cons, intoS_seen hs]
theorem fin_push {F : Func} {n : Int} {k : Nat} {r : List (Int × Nat)} {seen : List Bool} {left : List Int} (hl : seen.length = F.blocks.length) (h : k < (next F n).length) (hs : seen.getD ((next F n).getD k 0).toNat false = false) :
    fin F ((n, k) :: r) (seen, left) = fin F (((next F n).getD k 0, 0) :: (n, k + 1) :: r) (seen.set ((next F n).getD k 0).toNat true, left) := by
  have hin := next_in (F := F) (n := n) (k := (next F n).getD k 0) (by rw [getD_lt 0 h]; exact List.getElem_mem h)
  simp only [fin]; rw [drop_getD 0 h, List.foldl_cons, intoS_new hl hin.1 hin.2 hs, List.drop_zero]
theorem next_len (F : Func) (n : Int) : (next F n).length ≤ 3 := by
  unfold next; split
  · exact Nat.le_trans (kept_len _ _) (nxt_len _)
  · simp
theorem walked_start {F : Func} (h : 0 < F.blocks.length) : walkedF F = fin F [(0, 0)] ((List.replicate F.blocks.length false).set 0 true, []) := by
  have : walkedF F = intoS F 0 (none0 F) := by unfold walkedF; rw [if_pos h]; rfl
  rw [this]
  unfold none0
  rw [intoS_new (by simp) (by omega) (by omega) (by simp [List.getD_eq_getElem?_getD, List.getElem?_replicate, h])]
  simp only [fin, List.drop_zero]; rfl
structure OI (F : Func) (seen : List Bool) (fr : List (Int × Nat)) (out : List Int) : Prop where
  len : seen.length = F.blocks.length
  frs : ∀ x ∈ fr, 0 ≤ x.1 ∧ x.1 < F.blocks.length ∧ x.2 ≤ (next F x.1).length
  done : fin F fr (seen, out.reverse) = walkedF F
  size : out.length + fr.length + seen.count false ≤ F.blocks.length
def weigh (F : Func) : List (Int × Nat) → Nat
  | [] => 0
  | x :: r => (next F x.1).length - x.2 + 1 + weigh F r
abbrev stk (fr : List (Int × Nat)) : List Int := (fr.map (·.1)).reverse
abbrev lkd (fr : List (Int × Nat)) : List Int := (fr.map fun x => (x.2 : Int)).reverse
theorem stk_top (n : Int) (k : Nat) (r : List (Int × Nat)) : (stk ((n, k) :: r)).getD r.length 0 = n ∧ (lkd ((n, k) :: r)).getD r.length 0 = k := by
  simp [List.getD_eq_getElem?_getD, List.getElem?_append_right]
theorem stk_cons (n : Int) (k : Nat) (r : List (Int × Nat)) : stk ((n, k) :: r) = stk r ++ [n] := by simp
theorem lkd_cons (n : Int) (k : Nat) (r : List (Int × Nat)) : lkd ((n, k) :: r) = lkd r ++ [(k : Int)] := by simp
theorem lkd_set (n : Int) (k : Nat) (r : List (Int × Nat)) : (lkd ((n, k) :: r)).set r.length ((k : Int) + 1) = lkd ((n, k + 1) :: r) := by
  rw [lkd_cons, lkd_cons]
  rw [List.set_append_right _ _ (by simp)]
  simp
theorem fc25 (F : Func) (hF : F.blocks.length ≤ 70) : FC Try.prog 25 [.agg (encFunc F)] (ints (walkedF F).2.reverse) := by
  refine FC_intro tok Try.func25 rfl (by decide +kernel) (Nat.le_of_ble_eq_true rfl) ?_
  refine AWp_facts 0 (fun hl => ?_)
  have hl0 : F.blocks.length ≤ maxL := hl.2.2.1.1
  ((repeat' first | refine AWp_seq ?_ | (refine AWp_reg tok (by rfl) ?_; conv => whnf) | (refine AWp_any tok mix (by rfl) ?_; conv => whnf) | refine AWp_block ?_ | (refine AWp_skip ?_; conv => whnf) | (refine AWp_exit ?_; conv => whnf) | (refine AWp_ret ?_; conv => whnf) | (refine @And.intro (underG _ _ _ _) _ ?_ ?_; rotate_left; (conv => whnf); rotate_right) | (refine fun (bn : Bool) (hbn : (0 < _ → bn = _)) => ?_; conv => whnf)); all_goals (try ((first | refine underG_none ?_ | (refine underG_some ?_; intro hgd; conv at hgd => whnf)); (first | refine And.intro (srcObl_rs rfl ?_) ?_ | refine And.intro srcObl_sl ?_ | refine And.intro srcObl_nsl ?_ | skip); (all_goals (try simp only [underG, true_and, and_true, Bool.cond_true_left, Bool.cond_false_left, Bool.cond_true_right, Bool.cond_false_right, Bool.or_eq_true, Bool.and_eq_true, Bool.or_eq_false_iff, Bool.and_eq_false_iff, cond_true, cond_false, Bool.not_eq_eq_eq_not, Bool.not_true, Bool.not_false, decide_eq_true_eq, decide_eq_false_iff_not, Int.toNat_natCast, Nat.zero_add, Decidable.not_not, maxL] at *)); all_goals omega)))
  let S : List Bool × List (Int × Nat) × List Int → ASt := fun s => mkS [(1, .bp (1, 0, 0) 0), (3, .rs (13, 0, 0) 1 0 F.blocks.length), (4, .rs (4, 9, 0) 1 0 s.2.1.length), (5, .rs (5, 9, 0) 1 0 s.2.1.length), (6, .rs (6, 9, 0) 1 0 s.2.2.length)]
    [((1, 0, 0), fbox F), ((13, 0, 0), brow F.blocks.length s.1), ((4, 9, 0), irow s.2.1.length (stk s.2.1)), ((5, 9, 0), irow s.2.1.length (lkd s.2.1)), ((6, 9, 0), irow s.2.2.length s.2.2)]
  refine AWp_meet S (fun s => OI F s.1 s.2.1 s.2.2) ?_ ?_
  · ((repeat' first | refine AWp_seq ?_ | (refine AWp_reg tok (by rfl) ?_; conv => whnf) | (refine AWp_any tok mix (by rfl) ?_; conv => whnf) | refine AWp_block ?_ | (refine AWp_skip ?_; conv => whnf) | (refine AWp_exit ?_; conv => whnf) | (refine AWp_ret ?_; conv => whnf) | refine AWp_cond rfl (fun hb => ?_) (fun hb => ?_) | (refine @And.intro (underG _ _ _ _) _ ?_ ?_; rotate_left; (conv => whnf); rotate_right) | (refine fun (bn : Bool) (hbn : (0 < _ → bn = _)) => ?_; conv => whnf)); all_goals (try ((first | refine underG_none ?_ | (refine underG_some ?_; intro hgd; conv at hgd => whnf)); (first | refine And.intro (srcObl_rs rfl ?_) ?_ | refine And.intro srcObl_sl ?_ | refine And.intro srcObl_nsl ?_ | skip); (all_goals (try simp only [underG, true_and, and_true, Bool.cond_true_left, Bool.cond_false_left, Bool.cond_true_right, Bool.cond_false_right, Bool.or_eq_true, Bool.and_eq_true, Bool.or_eq_false_iff, Bool.and_eq_false_iff, cond_true, cond_false, Bool.not_eq_eq_eq_not, Bool.not_true, Bool.not_false, decide_eq_true_eq, decide_eq_false_iff_not, Int.toNat_natCast, Nat.zero_add, Decidable.not_not, maxL] at *)); all_goals omega)))
    · have hz : 0 < F.blocks.length := by simp only [underG, true_and, and_true, Bool.cond_true_left, Bool.cond_false_left, Bool.cond_true_right, Bool.cond_false_right, Bool.or_eq_true, Bool.and_eq_true, Bool.or_eq_false_iff, Bool.and_eq_false_iff, cond_true, cond_false, Bool.not_eq_eq_eq_not, Bool.not_true, Bool.not_false, decide_eq_true_eq, decide_eq_false_iff_not, Int.toNat_natCast, Nat.zero_add, Decidable.not_not, maxL] at *; omega
      refine ⟨((List.replicate F.blocks.length false).set 0 true, [(0, 0)], []), ⟨by simp, fun x hx => ?_, (walked_start hz).symm, ?_⟩, ?_⟩
      · simp at hx; subst hx; simp; exact hz
      · have hc := set_count (l := List.replicate F.blocks.length false) (i := 0) (by simpa using hz) (by simp [List.getD_eq_getElem?_getD, List.getElem?_replicate, hz])
        simp at hc ⊢; omega
      · refine Weak.list [((1, 0, 0), .old (1, 0, 0), fbox F), ((13, 0, 0), .old (13, 0, 0), brow F.blocks.length ((List.replicate F.blocks.length false).set 0 true)), ((4, 9, 0), .old (20, 0, 0), irow 1 [0]), ((5, 9, 0), .old (23, 0, 0), irow 1 [0]), ((6, 9, 0), .nil, irow 0 [])] rfl (by rfl) ?_
          (.old rfl (BLe.refl _) (.old rfl (BLe.row (by simp) (fun x hx => ?_)) (.old rfl (BLe.row rfl (fun x hx => by match x, hx with | 0, _ => rfl)) (.old rfl (BLe.row rfl (fun x hx => by match x, hx with | 0, _ => rfl)) (.new .nil)))))
        · ((repeat' first | exact TLes.nil | refine TLes.cons (TLe.eq rfl) ?_ | refine TLes.cons (TLe.nilL rfl ?_) ?_ | refine TLes.cons (TLe.rsL rfl ?_) ?_ | refine TLes.cons (TLe.int ?_) ?_ | refine TLes.cons (TLe.bool ?_) ?_); (all_goals first | rfl | ((try (simp only [underG, true_and, and_true, Bool.cond_true_left, Bool.cond_false_left, Bool.cond_true_right, Bool.cond_false_right, Bool.or_eq_true, Bool.and_eq_true, Bool.or_eq_false_iff, Bool.and_eq_false_iff, cond_true, cond_false, Bool.not_eq_eq_eq_not, Bool.not_true, Bool.not_false, decide_eq_true_eq, decide_eq_false_iff_not, Int.toNat_natCast, Nat.zero_add, Decidable.not_not, maxL] at *)); first | omega | (rw [wrap64 (by omega) (by omega)]; first | rfl | omega | (simp; done) | (simp; omega))) | skip))
        · show updR (fun _ => [AV.bool false]) 0 [AV.bool true] x = _
          rw [updR_congr (g := fun x => [.bool ((List.replicate F.blocks.length false).getD x false)])]
          · exact upd_row (e := fun b => [.bool b]) (by simpa using hz) x
          · rw [List.getD_eq_getElem?_getD, List.getElem?_replicate]
            split <;> rfl
    · have hz : F.blocks.length = 0 := by simp only [underG, true_and, and_true, Bool.cond_true_left, Bool.cond_false_left, Bool.cond_true_right, Bool.cond_false_right, Bool.or_eq_true, Bool.and_eq_true, Bool.or_eq_false_iff, Bool.and_eq_false_iff, cond_true, cond_false, Bool.not_eq_eq_eq_not, Bool.not_true, Bool.not_false, decide_eq_true_eq, decide_eq_false_iff_not, Int.toNat_natCast, Nat.zero_add, Decidable.not_not, maxL] at *; omega
      refine ⟨(List.replicate F.blocks.length false, [], []), ⟨by simp, fun x hx => (by cases hx), ?_, by simp [hz]⟩, ?_⟩
      · unfold walkedF; rw [if_neg (by omega)]; rfl
      · refine Weak.list [((1, 0, 0), .old (1, 0, 0), fbox F), ((13, 0, 0), .old (13, 0, 0), brow F.blocks.length (List.replicate F.blocks.length false)), ((4, 9, 0), .nil, irow 0 []), ((5, 9, 0), .nil, irow 0 []), ((6, 9, 0), .nil, irow 0 [])] rfl (by rfl) ?_
          (.old rfl (BLe.refl _) (.old rfl (BLe.row (by simp) (fun x hx => ?_)) (.new (.new (.new .nil)))))
        · ((repeat' first | exact TLes.nil | refine TLes.cons (TLe.eq rfl) ?_ | refine TLes.cons (TLe.nilL rfl ?_) ?_ | refine TLes.cons (TLe.rsL rfl ?_) ?_ | refine TLes.cons (TLe.int ?_) ?_ | refine TLes.cons (TLe.bool ?_) ?_); (all_goals first | rfl | ((try (simp only [underG, true_and, and_true, Bool.cond_true_left, Bool.cond_false_left, Bool.cond_true_right, Bool.cond_false_right, Bool.or_eq_true, Bool.and_eq_true, Bool.or_eq_false_iff, Bool.and_eq_false_iff, cond_true, cond_false, Bool.not_eq_eq_eq_not, Bool.not_true, Bool.not_false, decide_eq_true_eq, decide_eq_false_iff_not, Int.toNat_natCast, Nat.zero_add, Decidable.not_not, maxL] at *)); first | omega | (rw [wrap64 (by omega) (by omega)]; first | rfl | omega | (simp; done) | (simp; omega))) | skip))
        · exfalso; simp only [underG, true_and, and_true, Bool.cond_true_left, Bool.cond_false_left, Bool.cond_true_right, Bool.cond_false_right, Bool.or_eq_true, Bool.and_eq_true, Bool.or_eq_false_iff, Bool.and_eq_false_iff, cond_true, cond_false, Bool.not_eq_eq_eq_not, Bool.not_true, Bool.not_false, decide_eq_true_eq, decide_eq_false_iff_not, Int.toNat_natCast, Nat.zero_add, Decidable.not_not, maxL] at *; omega
  rintro s hs τ hτ
  refine AWp_weak hτ ?_
  ((repeat' first | refine AWp_seq ?_ | (refine AWp_reg tok (by rfl) ?_; conv => whnf) | (refine AWp_any tok mix (by rfl) ?_; conv => whnf) | refine AWp_block ?_ | (refine AWp_skip ?_; conv => whnf) | (refine AWp_exit ?_; conv => whnf) | (refine AWp_ret ?_; conv => whnf) | refine AWp_cond rfl (fun hb => ?_) (fun hb => ?_) | (refine @And.intro (underG _ _ _ _) _ ?_ ?_; rotate_left; (conv => whnf); rotate_right) | (refine fun (bn : Bool) (hbn : (0 < _ → bn = _)) => ?_; conv => whnf)); all_goals (try ((first | refine underG_none ?_ | (refine underG_some ?_; intro hgd; conv at hgd => whnf)); (first | refine And.intro (srcObl_rs rfl ?_) ?_ | refine And.intro srcObl_sl ?_ | refine And.intro srcObl_nsl ?_ | skip); (all_goals (try simp only [underG, true_and, and_true, Bool.cond_true_left, Bool.cond_false_left, Bool.cond_true_right, Bool.cond_false_right, Bool.or_eq_true, Bool.and_eq_true, Bool.or_eq_false_iff, Bool.and_eq_false_iff, cond_true, cond_false, Bool.not_eq_eq_eq_not, Bool.not_true, Bool.not_false, decide_eq_true_eq, decide_eq_false_iff_not, Int.toNat_natCast, Nat.zero_add, Decidable.not_not, maxL] at *)); all_goals omega)))
  refine AWp_loop S (fun s => OI F s.1 s.2.1 s.2.2) (fun s => 5 * s.1.count false + weigh F s.2.1) s hs (fun X ι a w s => ⟨ι, s, GoesP.refl _ _ _ _⟩) ?_
  clear hτ hs s τ
  rintro ⟨seen, fr, out⟩ hI
  replace hI : OI F seen fr out := hI
  have hle := hI.size
  rcases fr with _ | ⟨⟨n, k⟩, r⟩
  · ((repeat' first | refine AWp_seq ?_ | (refine AWp_reg tok (by rfl) ?_; conv => whnf) | (refine AWp_any tok mix (by rfl) ?_; conv => whnf) | refine AWp_block ?_ | (refine AWp_skip ?_; conv => whnf) | (refine AWp_exit ?_; conv => whnf) | (refine AWp_ret ?_; conv => whnf) | refine AWp_cond rfl (fun hb => ?_) (fun hb => ?_) | (refine @And.intro (underG _ _ _ _) _ ?_ ?_; rotate_left; (conv => whnf); rotate_right) | (refine fun (bn : Bool) (hbn : (0 < _ → bn = _)) => ?_; conv => whnf)); all_goals (try ((first | refine underG_none ?_ | (refine underG_some ?_; intro hgd; conv at hgd => whnf)); (first | refine And.intro (srcObl_rs rfl ?_) ?_ | refine And.intro srcObl_sl ?_ | refine And.intro srcObl_nsl ?_ | skip); (all_goals (try simp only [underG, true_and, and_true, Bool.cond_true_left, Bool.cond_false_left, Bool.cond_true_right, Bool.cond_false_right, Bool.or_eq_true, Bool.and_eq_true, Bool.or_eq_false_iff, Bool.and_eq_false_iff, cond_true, cond_false, Bool.not_eq_eq_eq_not, Bool.not_true, Bool.not_false, decide_eq_true_eq, decide_eq_false_iff_not, Int.toNat_natCast, Nat.zero_add, Decidable.not_not, maxL] at *)); all_goals omega)))
    all_goals first | (exfalso; simp only [underG, true_and, and_true, Bool.cond_true_left, Bool.cond_false_left, Bool.cond_true_right, Bool.cond_false_right, Bool.or_eq_true, Bool.and_eq_true, Bool.or_eq_false_iff, Bool.and_eq_false_iff, cond_true, cond_false, Bool.not_eq_eq_eq_not, Bool.not_true, Bool.not_false, decide_eq_true_eq, decide_eq_false_iff_not, Int.toNat_natCast, Nat.zero_add, Decidable.not_not, maxL] at *; simp at hb; done) | skip
    · have e := hI.done
      simp only [fin] at e
      have e2 : (walkedF F).2.reverse = out := by rw [← e]; simp
      rw [e2]
      exact ⟨_, rfl, Rel.row rfl rfl rfl (fun _ _ => rfl)⟩
  have hL : ((((n, k) :: r).length : Nat) : Int) = (r.length : Int) + 1 := by simp
  have hle1 : out.length + (r.length + 1) + seen.count false ≤ F.blocks.length := hle
  have hw : IntKind.i64.wrap ((((n, k) :: r).length : Int) - 1) = (r.length : Int) := by rw [hL, wrap64 (by simp only [maxL] at hl0; omega) (by simp only [maxL] at hl0; omega)]; omega
  have hcall : ∀ m, m = n → FC Try.prog 18 [.agg (encFunc F), iv m] (ints (next F n)) := fun m e => e ▸ fc18 F n
  have htop := stk_top n k r
  have hnk := hI.frs (n, k) (by simp)
  dsimp only at hnk
  have hlk : (lkd ((n, k) :: r)).getD (IntKind.i64.wrap ((((n, k) :: r).length : Int) - 1)).toNat 0 = k := by rw [hw, Int.toNat_natCast]; exact htop.2
  have hin : k < (next F n).length → 0 ≤ (next F n).getD k 0 ∧ (next F n).getD k 0 < F.blocks.length := fun h => next_in (F := F) (n := n) (by rw [getD_lt 0 h]; exact List.getElem_mem h)
  have hin2 : k < (next F n).length → 0 ≤ (next F n).getD ((lkd ((n, k) :: r)).getD (IntKind.i64.wrap ((((n, k) :: r).length : Int) - 1)).toNat 0).toNat 0 ∧ (next F n).getD ((lkd ((n, k) :: r)).getD (IntKind.i64.wrap ((((n, k) :: r).length : Int) - 1)).toNat 0).toNat 0 < F.blocks.length := by
    rw [hlk]; exact hin
  have hsl := hI.len
  ((repeat' first | refine AWp_seq ?_ | (refine AWp_reg tok (by rfl) ?_; conv => whnf) | (refine AWp_any tok mix (by rfl) ?_; conv => whnf) | refine AWp_block ?_ | (refine AWp_skip ?_; conv => whnf) | (refine AWp_exit ?_; conv => whnf) | (refine AWp_ret ?_; conv => whnf) | refine AWp_cond rfl (fun hb => ?_) (fun hb => ?_) | (refine @And.intro (underG _ _ _ _) _ ?_ ?_; rotate_left; (conv => whnf); rotate_right) | (refine fun (bn : Bool) (hbn : (0 < _ → bn = _)) => ?_; conv => whnf)); all_goals (try ((first | refine underG_none ?_ | (refine underG_some ?_; intro hgd; conv at hgd => whnf)); (first | refine And.intro (srcObl_rs rfl ?_) ?_ | refine And.intro srcObl_sl ?_ | refine And.intro srcObl_nsl ?_ | skip); (all_goals (try simp only [underG, true_and, and_true, Bool.cond_true_left, Bool.cond_false_left, Bool.cond_true_right, Bool.cond_false_right, Bool.or_eq_true, Bool.and_eq_true, Bool.or_eq_false_iff, Bool.and_eq_false_iff, cond_true, cond_false, Bool.not_eq_eq_eq_not, Bool.not_true, Bool.not_false, decide_eq_true_eq, decide_eq_false_iff_not, Int.toNat_natCast, Nat.zero_add, Decidable.not_not, maxL] at *)); all_goals omega)))
  · refine .inl ⟨_, _, _, uG (QC.fc (hcall _ (by show (stk ((n, k) :: r)).getD (0 + (IntKind.i64.wrap ((((n, k) :: r).length : Int) - 1)).toNat) 0 = n; rw [hw, Nat.zero_add, Int.toNat_natCast]; exact htop.1)) rfl), ?_⟩
    conv => whnf
    ((repeat' first | refine AWp_seq ?_ | (refine AWp_reg tok (by rfl) ?_; conv => whnf) | (refine AWp_any tok mix (by rfl) ?_; conv => whnf) | refine AWp_block ?_ | (refine AWp_skip ?_; conv => whnf) | (refine AWp_exit ?_; conv => whnf) | (refine AWp_ret ?_; conv => whnf) | refine AWp_cond rfl (fun hb => ?_) (fun hb => ?_) | (refine @And.intro (underG _ _ _ _) _ ?_ ?_; rotate_left; (conv => whnf); rotate_right) | (refine fun (bn : Bool) (hbn : (0 < _ → bn = _)) => ?_; conv => whnf)); all_goals (try ((first | refine underG_none ?_ | (refine underG_some ?_; intro hgd; conv at hgd => whnf)); (first | refine And.intro (srcObl_rs rfl ?_) ?_ | refine And.intro srcObl_sl ?_ | refine And.intro srcObl_nsl ?_ | skip); (all_goals (try simp only [underG, true_and, and_true, Bool.cond_true_left, Bool.cond_false_left, Bool.cond_true_right, Bool.cond_false_right, Bool.or_eq_true, Bool.and_eq_true, Bool.or_eq_false_iff, Bool.and_eq_false_iff, cond_true, cond_false, Bool.not_eq_eq_eq_not, Bool.not_true, Bool.not_false, decide_eq_true_eq, decide_eq_false_iff_not, Int.toNat_natCast, Nat.zero_add, Decidable.not_not, maxL] at *)); all_goals omega)))
    · -- a frame goes
      simp only [hw, Int.toNat_natCast, Nat.zero_add, htop.1, htop.2, decide_eq_true_eq] at hb
      refine ⟨(seen, r, n :: out), ⟨hI.len, fun x hx => hI.frs x (by simp [hx]), ?_, by dsimp only; rw [List.length_cons]; omega⟩, ?_, ?_⟩
      · rw [← hI.done, fin_pop (by omega)]; simp
      · show 5 * seen.count false + weigh F r < 5 * seen.count false + weigh F ((n, k) :: r)
        simp only [weigh]; omega
      · refine Weak.list [((1, 0, 0), .old (1, 0, 0), fbox F), ((13, 0, 0), .old (13, 0, 0), brow F.blocks.length seen), ((4, 9, 0), .old (4, 9, 0), irow r.length (stk r)), ((5, 9, 0), .old (5, 9, 0), irow r.length (lkd r)), ((6, 9, 0), .old (51, 0, 0), irow (n :: out).length (n :: out))] rfl (by rfl) ?_
          (.old rfl (BLe.refl _) (.old rfl (BLe.refl _) (.old rfl (BLe.less (by simp) (fun x hx => ?_)) (.old rfl (BLe.less (by simp) (fun x hx => ?_)) (.old rfl (BLe.row (by simp; omega) (fun x hx => ?_)) .nil)))))
        · (repeat' first | exact TLes.nil | refine TLes.cons (TLe.eq rfl) ?_ | refine TLes.cons (TLe.nilL rfl ?_) ?_ | refine TLes.cons (TLe.rsL rfl ?_) ?_ | refine TLes.cons (TLe.int ?_) ?_ | refine TLes.cons (TLe.bool ?_) ?_)
          · simp only [hw]; simp
          · simp only [hw]; simp
          · simp; omega
        · show [iv ((stk ((n, k) :: r)).getD x 0)] = [iv ((stk r).getD x 0)]
          rw [stk_cons, getD_append, if_pos (by simpa using hx)]
        · show [iv ((lkd ((n, k) :: r)).getD x 0)] = [iv ((lkd r).getD x 0)]
          rw [lkd_cons, getD_append, if_pos (by simpa using hx)]
        · exact app_pre (fun n => [iv n]) 0 1 rfl (by simp only [hw, Nat.zero_add, Int.toNat_natCast, htop.1]) hx
    · -- one that was not seen
      rename_i hlt
      simp only [hw, Int.toNat_natCast, Nat.zero_add, htop.1, htop.2, decide_eq_true_eq, decide_eq_false_iff_not, Bool.not_eq_true', Bool.not_eq_false', Bool.not_eq_eq_eq_not, Bool.not_true, Bool.not_false] at hb hlt
      have hk : k < (next F n).length := by omega
      have hi := hin hk
      have hc := set_count (l := seen) (i := ((next F n).getD k 0).toNat) (by omega) hb
      refine ⟨(seen.set ((next F n).getD k 0).toNat true, ((next F n).getD k 0, 0) :: (n, k + 1) :: r, out), ⟨by simpa using hsl, fun x hx => ?_, ?_, by simp only [List.length_cons]; omega⟩, ?_, ?_⟩
      · simp only [List.mem_cons] at hx
        rcases hx with rfl | rfl | hx
        · exact ⟨hi.1, hi.2, Nat.zero_le _⟩
        · exact ⟨hnk.1, hnk.2.1, hk⟩
        · exact hI.frs x (by simp [hx])
      · dsimp only; rw [← fin_push hsl hk hb]; exact hI.done
      · show 5 * (seen.set _ true).count false + weigh F (((next F n).getD k 0, 0) :: (n, k + 1) :: r) < 5 * seen.count false + weigh F ((n, k) :: r)
        have := next_len F ((next F n).getD k 0)
        simp only [weigh]; omega
      · refine Weak.list [((1, 0, 0), .old (1, 0, 0), fbox F), ((13, 0, 0), .old (13, 0, 0), brow F.blocks.length (seen.set ((next F n).getD k 0).toNat true)), ((4, 9, 0), .old (82, 0, 0), irow (r.length + 2) (stk (((next F n).getD k 0, 0) :: (n, k + 1) :: r))), ((5, 9, 0), .old (85, 0, 0), irow (r.length + 2) (lkd (((next F n).getD k 0, 0) :: (n, k + 1) :: r))), ((6, 9, 0), .old (6, 9, 0), irow out.length out)] rfl (by rfl) ?_
          (.old rfl (BLe.refl _) (.old rfl (BLe.row rfl (fun x hx => ?_)) (.old rfl (BLe.row (by simp) (fun x hx => ?_)) (.old rfl (BLe.row (by simp) (fun x hx => ?_)) (.old rfl (BLe.refl _) .nil)))))
        · ((repeat' first | exact TLes.nil | refine TLes.cons (TLe.eq rfl) ?_ | refine TLes.cons (TLe.nilL rfl ?_) ?_ | refine TLes.cons (TLe.rsL rfl ?_) ?_ | refine TLes.cons (TLe.int ?_) ?_ | refine TLes.cons (TLe.bool ?_) ?_); (all_goals first | rfl | ((try (simp only [underG, true_and, and_true, Bool.cond_true_left, Bool.cond_false_left, Bool.cond_true_right, Bool.cond_false_right, Bool.or_eq_true, Bool.and_eq_true, Bool.or_eq_false_iff, Bool.and_eq_false_iff, cond_true, cond_false, Bool.not_eq_eq_eq_not, Bool.not_true, Bool.not_false, decide_eq_true_eq, decide_eq_false_iff_not, Int.toNat_natCast, Nat.zero_add, Decidable.not_not, maxL] at *)); first | omega | (rw [wrap64 (by omega) (by omega)]; first | rfl | omega | (simp; done) | (simp; omega))) | skip))
        · exact upd_row' (fun b => [.bool b]) false seen (k' := ((next F n).getD k 0).toNat) (by omega) (by simp only [hw, Int.toNat_natCast, Nat.zero_add, htop.1, htop.2, decide_eq_true_eq, decide_eq_false_iff_not, Bool.not_eq_true', Bool.not_eq_false', Bool.not_eq_eq_eq_not, Bool.not_true, Bool.not_false]) rfl x
        · have e1 : stk (((next F n).getD k 0, 0) :: (n, k + 1) :: r) = stk ((n, k) :: r) ++ [(next F n).getD k 0] := by simp
          rw [e1]
          simp only [allB, isImm, Bool.true_and, Bool.and_true, Bool.and_self, cond_true]
          exact app_snoc (fun n => [iv n]) 0 1 (by simp) (fun i _ => rfl) rfl (by simp only [hw, Int.toNat_natCast, Nat.zero_add, htop.1, htop.2]) hx
        · have e1 : lkd (((next F n).getD k 0, 0) :: (n, k + 1) :: r) = (lkd ((n, k) :: r)).set r.length ((k : Int) + 1) ++ [0] := by rw [lkd_set]; simp
          rw [e1]
          simp only [allB, isImm, Bool.true_and, Bool.and_true, Bool.and_self, cond_true]
          refine app_snoc (fun n => [iv n]) 0 1 (by simp) (fun i _ => ?_) rfl rfl hx
          exact upd_row' (fun n => [iv n]) 0 (lkd ((n, k) :: r)) (k' := r.length) (v := (k : Int) + 1) (by simp) (by simp only [hw, Int.toNat_natCast, Nat.zero_add, htop.1, htop.2]) (by simp only [hw, Int.toNat_natCast, Nat.zero_add, htop.1, htop.2]; rw [wrap64 (by omega) (by have := next_len F n; omega)]) i
    · -- one that was seen
      rename_i hlt
      simp only [hw, Int.toNat_natCast, Nat.zero_add, htop.1, htop.2, decide_eq_true_eq, decide_eq_false_iff_not, Bool.not_eq_true', Bool.not_eq_false', Bool.not_eq_eq_eq_not, Bool.not_true, Bool.not_false] at hb hlt
      have hk : k < (next F n).length := by omega
      refine ⟨(seen, (n, k + 1) :: r, out), ⟨hsl, fun x hx => ?_, ?_, by simp only [List.length_cons]; omega⟩, ?_, ?_⟩
      · simp only [List.mem_cons] at hx
        rcases hx with rfl | hx
        · exact ⟨hnk.1, hnk.2.1, hk⟩
        · exact hI.frs x (by simp [hx])
      · dsimp only; rw [← fin_skip hk hb]; exact hI.done
      · show 5 * seen.count false + weigh F ((n, k + 1) :: r) < 5 * seen.count false + weigh F ((n, k) :: r)
        simp only [weigh]; omega
      · refine Weak.list [((1, 0, 0), .old (1, 0, 0), fbox F), ((13, 0, 0), .old (13, 0, 0), brow F.blocks.length seen), ((4, 9, 0), .old (4, 9, 0), irow (r.length + 1) (stk ((n, k + 1) :: r))), ((5, 9, 0), .old (5, 9, 0), irow (r.length + 1) (lkd ((n, k + 1) :: r))), ((6, 9, 0), .old (6, 9, 0), irow out.length out)] rfl (by rfl) ?_
          (.old rfl (BLe.refl _) (.old rfl (BLe.refl _) (.old rfl (BLe.refl _) (.old rfl (BLe.row rfl (fun x hx => ?_)) (.old rfl (BLe.refl _) .nil)))))
        · ((repeat' first | exact TLes.nil | refine TLes.cons (TLe.eq rfl) ?_ | refine TLes.cons (TLe.nilL rfl ?_) ?_ | refine TLes.cons (TLe.rsL rfl ?_) ?_ | refine TLes.cons (TLe.int ?_) ?_ | refine TLes.cons (TLe.bool ?_) ?_); (all_goals first | rfl | ((try (simp only [underG, true_and, and_true, Bool.cond_true_left, Bool.cond_false_left, Bool.cond_true_right, Bool.cond_false_right, Bool.or_eq_true, Bool.and_eq_true, Bool.or_eq_false_iff, Bool.and_eq_false_iff, cond_true, cond_false, Bool.not_eq_eq_eq_not, Bool.not_true, Bool.not_false, decide_eq_true_eq, decide_eq_false_iff_not, Int.toNat_natCast, Nat.zero_add, Decidable.not_not, maxL] at *)); first | omega | (rw [wrap64 (by omega) (by omega)]; first | rfl | omega | (simp; done) | (simp; omega))) | skip))
        · rw [← lkd_set]
          exact upd_row' (fun n => [iv n]) 0 (lkd ((n, k) :: r)) (k' := r.length) (v := (k : Int) + 1) (by simp) (by simp only [hw, Int.toNat_natCast, Nat.zero_add, htop.1, htop.2, decide_eq_true_eq, decide_eq_false_iff_not, Bool.not_eq_true', Bool.not_eq_false', Bool.not_eq_eq_eq_not, Bool.not_true, Bool.not_false]) (by simp only [hw, Int.toNat_natCast, Nat.zero_add, htop.1, htop.2, decide_eq_true_eq, decide_eq_false_iff_not, Bool.not_eq_true', Bool.not_eq_false', Bool.not_eq_eq_eq_not, Bool.not_true, Bool.not_false]; rw [wrap64 (by omega) (by have := next_len F n; omega)]) x
  all_goals (exfalso; simp only [underG, true_and, and_true, Bool.cond_true_left, Bool.cond_false_left, Bool.cond_true_right, Bool.cond_false_right, Bool.or_eq_true, Bool.and_eq_true, Bool.or_eq_false_iff, Bool.and_eq_false_iff, cond_true, cond_false, Bool.not_eq_eq_eq_not, Bool.not_true, Bool.not_false, decide_eq_true_eq, decide_eq_false_iff_not, Int.toNat_natCast, Nat.zero_add, Decidable.not_not, maxL] at *; first | omega | (simp at hb; done) | (simp at *; done))
end Go.Proofs.Ytmkiahbnfmpieaa
namespace Go.Proofs.Ytmkiahbnfmpieaa
open Go Dv
set_option maxRecDepth 10000
set_option linter.unusedSimpArgs false
/-- m stands ahead of p -/
def Ahead (L : List Int) (m p : Int) : Prop := ∃ A B, L = A ++ p :: B ∧ m ∈ A
theorem Ahead.left {L K : List Int} {m p : Int} (h : Ahead L m p) : Ahead (L ++ K) m p := by
  obtain ⟨A, B, rfl, hm⟩ := h; exact ⟨A, B ++ K, by simp, hm⟩
theorem Ahead.right {L K : List Int} {m p : Int} (h : Ahead L m p) : Ahead (K ++ L) m p := by
  obtain ⟨A, B, rfl, hm⟩ := h; exact ⟨K ++ A, B, by simp, by simp [hm]⟩
/-- What a piece of a walk does: L are those it goes into anew, l those that it was sent to. -/
structure WalkP (F : Func) (s s' : List Bool × List Int) (L l : List Int) : Prop where
  len : s'.1.length = s.1.length
  left : s'.2 = s.2 ++ L
  nodup : L.Nodup
  seen : ∀ m : Nat, s'.1.getD m false = true ↔ s.1.getD m false = true ∨ (m : Int) ∈ L
  new : ∀ m ∈ L, 0 ≤ m ∧ m < F.blocks.length ∧ s.1.getD m.toNat false = false
  closed : ∀ m ∈ L, ∀ k ∈ next F m, s'.1.getD k.toNat false = true
  par : ∀ m ∈ L, m ∈ l ∨ ∃ p, m ∈ next F p ∧ p ∈ L ∧ Ahead L m p
  all : ∀ k ∈ l, s'.1.getD k.toNat false = true
theorem WalkP.nil (F : Func) (s : List Bool × List Int) : WalkP F s s [] [] :=
  ⟨rfl, by simp, List.nodup_nil, by simp, by simp, by simp, by simp, by simp⟩
theorem WalkP.append {F : Func} {s s1 s2 : List Bool × List Int} {L K l k : List Int} (h : WalkP F s s1 L l) (g : WalkP F s1 s2 K k) : WalkP F s s2 (L ++ K) (l ++ k) := by
  refine ⟨g.len.trans h.len, by rw [g.left, h.left, List.append_assoc], ?_, fun m => ?_, fun m hm => ?_, fun m hm x hx => ?_, fun m hm => ?_, fun x hx => ?_⟩
  · rw [List.nodup_append]
    refine ⟨h.nodup, g.nodup, fun a ha b hb e => ?_⟩
    subst e
    have h1 := (g.new a hb).2.2
    have h0 := (h.new a ha).1
    have := (h.seen a.toNat).2 (.inr (by rw [Int.toNat_of_nonneg h0]; exact ha))
    rw [this] at h1; cases h1
  · rw [g.seen, h.seen, List.mem_append, or_assoc]
  · rw [List.mem_append] at hm
    rcases hm with hm | hm
    · exact h.new m hm
    · obtain ⟨a, b, c⟩ := g.new m hm
      refine ⟨a, b, ?_⟩
      cases e : s.1.getD m.toNat false with
      | false => rfl
      | true => rw [(h.seen m.toNat).2 (.inl e)] at c; cases c
  · rw [List.mem_append] at hm
    rcases hm with hm | hm
    · exact (g.seen _).2 (.inl (h.closed m hm x hx))
    · exact g.closed m hm x hx
  · rw [List.mem_append] at hm
    rcases hm with hm | hm
    · rcases h.par m hm with h1 | ⟨p, h1, h2, h3⟩
      · left; simp [h1]
      · right; exact ⟨p, h1, by simp [h2], h3.left⟩
    · rcases g.par m hm with h1 | ⟨p, h1, h2, h3⟩
      · left; simp [h1]
      · right; exact ⟨p, h1, by simp [h2], h3.right⟩
  · rw [List.mem_append] at hx
    rcases hx with hx | hx
    · exact (g.seen _).2 (.inl (h.all x hx))
    · exact g.all x hx
theorem fold_walkP {F : Func} {fuel : Nat} (ih : ∀ (n : Int) (s : List Bool × List Int), s.1.length = F.blocks.length → 0 ≤ n → n < F.blocks.length → s.1.count false ≤ fuel → ∃ L, WalkP F s (into F (fuel + 1) n s) L [n]) :
    ∀ (l : List Int) (s : List Bool × List Int), s.1.length = F.blocks.length → (∀ k ∈ l, 0 ≤ k ∧ k < F.blocks.length) → s.1.count false ≤ fuel →
      ∃ L, WalkP F s (l.foldl (fun s k => into F (fuel + 1) k s) s) L l
  | [], s, _, _, _ => ⟨[], .nil F s⟩
  | k :: l, s, h, hk, hc => by
      obtain ⟨L, hL⟩ := ih k s h (hk k (by simp)).1 (hk k (by simp)).2 hc
      have hkeep := into_keeps F (fuel + 1) k s h (hk k (by simp)).1 (hk k (by simp)).2
      obtain ⟨K, hK⟩ := fold_walkP ih l (into F (fuel + 1) k s) hkeep.1 (fun x hx => hk x (by simp [hx])) (Nat.le_trans hkeep.2.2 hc)
      exact ⟨L ++ K, hL.append hK⟩
theorem into_walkP {F : Func} : ∀ (fuel : Nat) (n : Int) (s : List Bool × List Int), s.1.length = F.blocks.length → 0 ≤ n → n < F.blocks.length → s.1.count false ≤ fuel →
    (s.1.getD n.toNat false = true ∧ into F (fuel + 1) n s = s) ∨ (s.1.getD n.toNat false = false ∧ ∃ L, WalkP F s (into F (fuel + 1) n s) (L ++ [n]) [n]) := by
  intro fuel
  induction fuel with
  | zero =>
    rintro n ⟨seen, left⟩ hl h0 h1 hc
    dsimp only at hl hc
    have : seen.getD n.toNat false = true := count_zero (by omega) (by omega)
    left; refine ⟨this, ?_⟩
    simp only [into, this, if_true]
  | succ fuel ih =>
    rintro n ⟨seen, left⟩ hl h0 h1 hc
    dsimp only at hl hc
    cases hs : seen.getD n.toNat false with
    | true => left; refine ⟨rfl, ?_⟩; simp only [into, hs, if_true]
    | false =>
      right
      have hcc := set_count (l := seen) (i := n.toNat) (by omega) hs
      have ih' : ∀ (n : Int) (s : List Bool × List Int), s.1.length = F.blocks.length → 0 ≤ n → n < F.blocks.length → s.1.count false ≤ fuel → ∃ L, WalkP F s (into F (fuel + 1) n s) L [n] := by
        intro n s a b c d
        rcases ih n s a b c d with ⟨h1, h2⟩ | ⟨_, L, h⟩
        · rw [h2]
          exact ⟨[], rfl, by simp, List.nodup_nil, by simp, by simp, by simp, by simp, by simpa using h1⟩
        · exact ⟨_, h⟩
      obtain ⟨L, hL⟩ := fold_walkP ih' (next F n) (seen.set n.toNat true, left) (by simpa using hl) (fun k hk => next_in hk) (by dsimp only; omega)
      refine ⟨rfl, L, ?_⟩
      have e : into F (fuel + 1 + 1) n (seen, left) = (((next F n).foldl (fun s k => into F (fuel + 1) k s) (seen.set n.toNat true, left)).1, ((next F n).foldl (fun s k => into F (fuel + 1) k s) (seen.set n.toNat true, left)).2 ++ [n]) := by
        rw [into]; simp only [hs, Bool.false_eq_true, if_false]
      rw [e]
      generalize (next F n).foldl (fun s k => into F (fuel + 1) k s) (seen.set n.toNat true, left) = s1 at hL
      have hset : ∀ m : Nat, (seen.set n.toNat true).getD m false = true ↔ seen.getD m false = true ∨ (m : Int) = n := by
        intro m
        rw [getD_set]
        by_cases e : n.toNat = m
        · rw [if_pos ⟨e, by omega⟩]
          simp only [true_iff]; right; omega
        · rw [if_neg (fun x => e x.1)]
          constructor
          · exact .inl
          · rintro (h | h)
            · exact h
            · exact absurd (by omega) e
      refine ⟨by simpa using hL.len, by dsimp only; rw [hL.left, List.append_assoc], ?_, fun m => ?_, fun m hm => ?_, fun m hm x hx => ?_, fun m hm => ?_, fun x hx => ?_⟩
      · rw [List.nodup_append]
        refine ⟨hL.nodup, by simp, fun a ha b hb e1 => ?_⟩
        simp only [List.mem_singleton] at hb
        subst hb; subst e1
        have := (hL.new a ha).2.2
        dsimp only at this
        rw [(hset a.toNat).2 (.inr (by omega))] at this; cases this
      · dsimp only; rw [hL.seen, List.mem_append, List.mem_singleton]; dsimp only; rw [hset]
        exact ⟨fun h => h.elim (fun h => h.elim .inl (fun h => .inr (.inr h))) (fun h => .inr (.inl h)), fun h => h.elim (fun h => .inl (.inl h)) (fun h => h.elim .inr (fun h => .inl (.inr h)))⟩
      · rw [List.mem_append, List.mem_singleton] at hm
        rcases hm with hm | rfl
        · obtain ⟨a, b, c⟩ := hL.new m hm
          refine ⟨a, b, ?_⟩
          cases e : seen.getD m.toNat false with
          | false => rfl
          | true => dsimp only at c; rw [(hset _).2 (.inl e)] at c; cases c
        · exact ⟨h0, h1, hs⟩
      · rw [List.mem_append, List.mem_singleton] at hm
        rcases hm with hm | rfl
        · exact hL.closed m hm x hx
        · exact hL.all x hx
      · rw [List.mem_append, List.mem_singleton] at hm
        rcases hm with hm | rfl
        · right
          rcases hL.par m hm with h1 | ⟨p, h1, h2, h3⟩
          · exact ⟨n, h1, by simp, L, [], by simp, hm⟩
          · exact ⟨p, h1, by simp [h2], h3.left⟩
        · left; simp
      · simp only [List.mem_singleton] at hx
        subst hx
        exact (hL.seen _).2 (.inl ((hset _).2 (.inr (by omega))))
/-- What a walk from block 0 on comes to. -/
theorem walked_spec {F : Func} (h : 0 < F.blocks.length) : ∃ L, WalkP F (none0 F) (walkedF F) (L ++ [0]) [0] := by
  have hw : walkedF F = into F (F.blocks.length + 1) 0 (none0 F) := by unfold walkedF; rw [if_pos h]
  rw [hw]
  have hn : (none0 F).1.getD (0 : Int).toNat false = false := by simp [none0, List.getD_eq_getElem?_getD, List.getElem?_replicate, h]
  rcases into_walkP (F := F) F.blocks.length 0 (none0 F) (by simp [none0]) (by omega) (by omega) (by simp [none0]) with ⟨h1, _⟩ | ⟨_, h1⟩
  · rw [hn] at h1; cases h1
  · exact h1
theorem walked_nil {F : Func} (h : F.blocks.length = 0) : walkedF F = ([], []) := by
  unfold walkedF; rw [if_neg (by omega)]; simp [none0, h]
theorem none0_get (F : Func) (m : Nat) : (none0 F).1.getD m false = false := by
  simp [none0, List.getD_eq_getElem?_getD, List.getElem?_replicate]; split <;> rfl
theorem walked_seen {F : Func} (h : 0 < F.blocks.length) {L : List Int} (hL : WalkP F (none0 F) (walkedF F) (L ++ [0]) [0]) (m : Nat) : (walkedF F).1.getD m false = true ↔ (m : Int) ∈ L ++ [0] := by
  rw [hL.seen, none0_get]; simp
theorem walked_reach (F : Func) : (walkedF F).1 = reachB F := by
  by_cases h : 0 < F.blocks.length
  · obtain ⟨L, hL⟩ := walked_spec h
    refine reachB_eq (by rw [hL.len]; simp [none0]) (fun i hi => ?_) (fun _ => ?_) (fun n k hn hk h1 => ?_)
    · -- all of L are reached: by the place from behind
      rw [walked_seen h hL] at hi
      have : ∀ (d : Nat) (A B : List Int) (m : Int), L ++ [0] = A ++ m :: B → B.length = d → Reach F m.toNat := by
        intro d
        induction d using Nat.strongRecOn with
        | ind d ih =>
          intro A B m e hd
          have hm : m ∈ L ++ [0] := by rw [e]; simp
          rcases hL.par m hm with h1 | ⟨p, h1, _, A', B', e', hA⟩
          · simp only [List.mem_singleton] at h1; subst h1; exact .zero h
          · -- p stands behind m
            have hnd := hL.nodup
            obtain ⟨A1, A2, rfl⟩ := List.append_of_mem hA
            have e2 : A ++ m :: B = A1 ++ m :: (A2 ++ p :: B') := by rw [← e, e']; simp
            have hA : A = A1 := by
              have hn1 : m ∉ A := fun hc => by
                rw [e, List.nodup_append] at hnd; exact hnd.2.2 m hc m (by simp) rfl
              have hn2 : m ∉ A1 := fun hc => by
                rw [e, e2, List.nodup_append] at hnd; exact hnd.2.2 m hc m (by simp) rfl
              rcases List.append_eq_append_iff.1 e2 with ⟨t, rfl, h2⟩ | ⟨t, rfl, h2⟩
              · cases t with
                | nil => simp
                | cons x t => simp only [List.cons_append, List.cons.injEq] at h2; rw [h2.1] at hn2; exact absurd (by simp) hn2
              · cases t with
                | nil => simp
                | cons x t => simp only [List.cons_append, List.cons.injEq] at h2; rw [h2.1] at hn1; exact absurd (by simp) hn1
            subst hA
            have hB : B = A2 ++ p :: B' := by simpa using e2
            have := ih B'.length (by rw [← hd, hB]; simp; omega) (A ++ m :: A2) B' p (by rw [e, hB]; simp) rfl
            have hp : p ∈ L ++ [0] := by rw [e']; simp
            exact .step this (by rw [Int.toNat_of_nonneg (hL.new p hp).1]; exact h1)
      obtain ⟨A, B, e⟩ := List.append_of_mem hi
      have := this B.length A B i e rfl
      simpa using this
    · rw [walked_seen h hL]; simp
    · rw [walked_seen h hL] at h1
      exact hL.closed n h1 k hk
  · rw [walked_nil (by omega)]
    have : F.blocks.length = 0 := by omega
    simp [reachB, this]
end Go.Proofs.Ytmkiahbnfmpieaa
namespace Go.Proofs.Ytmkiahbnfmpieaa
open Go Dv
set_option maxRecDepth 10000
set_option linter.unusedSimpArgs false
def jump3 : Block := { (default : Block) with fin := { (default : End) with kind := 2, to := 3 } }
def awakeF : Func := ⟨0, 1, [{ (default : Block) with fin := { (default : End) with kind := 3, to := 1, els := 2 } }, jump3, jump3, { (default : Block) with fin := { (default : End) with kind := 1 } }]⟩
theorem aw1 : (walkedF awakeF).2.reverse = [0, 2, 1, 3] := by decide +kernel
theorem aw2 : before awakeF 3 = [1, 2] := by decide +kernel
theorem aw3 : next awakeF 0 = [1, 2] := by decide +kernel
theorem awl : awakeF.blocks.length = 4 := rfl
def blkC (k t e : Int) : List AV := [.bool false, iv 0, .nsl, .bool false, .bool false, .nsl, iv k, iv 0, iv 0, iv 0, .nsl, iv t, iv e, iv 0]
def awC : List AV := blkC 3 1 2 ++ (blkC 2 3 0 ++ (blkC 2 3 0 ++ blkC 1 0 0))
theorem awR {h : AHeap} (e : h (11, 0, 0) = some (.row true 14 4 (rowOf 14 awC))) : Ress h [(11, 0, 0)] [.agg [iv 0, iv 1, .rs (11, 0, 0) 14 0 4]] [.agg (encFunc awakeF)] := by
  refine .cons (.agg (.cons (.imm rfl) (.cons (.imm rfl) (.cons (.rsW e (.head _) (by decide) rfl (fun i hi => ?_)) .nil)))) .nil
  match i, hi with
  | 0, _ => (repeat' first | exact Wks.nil | refine Wks.cons .refl ?_ | refine Wks.cons (.nsl rfl) ?_)
  | 1, _ => (repeat' first | exact Wks.nil | refine Wks.cons .refl ?_ | refine Wks.cons (.nsl rfl) ?_)
  | 2, _ => (repeat' first | exact Wks.nil | refine Wks.cons .refl ?_ | refine Wks.cons (.nsl rfl) ?_)
  | 3, _ => (repeat' first | exact Wks.nil | refine Wks.cons .refl ?_ | refine Wks.cons (.nsl rfl) ?_)
theorem awR2 {h : AHeap} {k : Int} (e : h (11, 0, 0) = some (.row true 14 4 (rowOf 14 awC))) : Ress h [(11, 0, 0)] [.agg [iv 0, iv 1, .rs (11, 0, 0) 14 0 4], iv k] [.agg (encFunc awakeF), iv k] := by
  cases awR e with
  | cons h1 h2 => exact .cons h1 (.cons (.imm rfl) .nil)
theorem fc15 : FC Try.prog 15 [] (.bool true) := by
  refine FC_intro tok Try.func15 rfl (by decide +kernel) (Nat.le_of_ble_eq_true rfl) ?_
  ((repeat' first | refine AWp_seq ?_ | (refine AWp_reg tok (by rfl) ?_; conv => whnf) | (refine AWp_any tok mix (by rfl) ?_; conv => whnf) | refine AWp_block ?_ | (refine AWp_skip ?_; conv => whnf) | (refine AWp_exit ?_; conv => whnf) | (refine AWp_ret ?_; conv => whnf) | refine AWp_cond rfl (fun hb => ?_) (fun hb => ?_) | (refine @And.intro (underG _ _ _ _) _ ?_ ?_; rotate_left; (conv => whnf); rotate_right) | (refine fun (bn : Bool) (hbn : (0 < _ → bn = _)) => ?_; conv => whnf)); all_goals (try ((first | refine underG_none ?_ | (refine underG_some ?_; intro hgd; conv at hgd => whnf)); (first | refine And.intro (srcObl_rs rfl ?_) ?_ | refine And.intro srcObl_sl ?_ | refine And.intro srcObl_nsl ?_ | skip); (all_goals (try simp only [underG, true_and, and_true, Bool.cond_true_left, Bool.cond_false_left, Bool.cond_true_right, Bool.cond_false_right, Bool.or_eq_true, Bool.and_eq_true, Bool.or_eq_false_iff, Bool.and_eq_false_iff, cond_true, cond_false, Bool.not_eq_eq_eq_not, Bool.not_true, Bool.not_false, decide_eq_true_eq, decide_eq_false_iff_not, Int.toNat_natCast, Nat.zero_add, Decidable.not_not, maxL] at *)); all_goals omega)))
  refine .inl ⟨_, _, _, uG (QC.fo (rd := [(11, 0, 0)]) (fo24 awakeF) (awR rfl) (.inr (fun _ _ => rfl)) rfl), ?_⟩
  conv => whnf
  ((repeat' first | refine AWp_seq ?_ | (refine AWp_reg tok (by rfl) ?_; conv => whnf) | (refine AWp_any tok mix (by rfl) ?_; conv => whnf) | refine AWp_block ?_ | (refine AWp_skip ?_; conv => whnf) | (refine AWp_exit ?_; conv => whnf) | (refine AWp_ret ?_; conv => whnf) | refine AWp_cond rfl (fun hb => ?_) (fun hb => ?_) | (refine @And.intro (underG _ _ _ _) _ ?_ ?_; rotate_left; (conv => whnf); rotate_right) | (refine fun (bn : Bool) (hbn : (0 < _ → bn = _)) => ?_; conv => whnf)); all_goals (try ((first | refine underG_none ?_ | (refine underG_some ?_; intro hgd; conv at hgd => whnf)); (first | refine And.intro (srcObl_rs rfl ?_) ?_ | refine And.intro srcObl_sl ?_ | refine And.intro srcObl_nsl ?_ | skip); (all_goals (try simp only [underG, true_and, and_true, Bool.cond_true_left, Bool.cond_false_left, Bool.cond_true_right, Bool.cond_false_right, Bool.or_eq_true, Bool.and_eq_true, Bool.or_eq_false_iff, Bool.and_eq_false_iff, cond_true, cond_false, Bool.not_eq_eq_eq_not, Bool.not_true, Bool.not_false, decide_eq_true_eq, decide_eq_false_iff_not, Int.toNat_natCast, Nat.zero_add, Decidable.not_not, maxL] at *)); all_goals omega)))
  refine .inl ⟨_, _, _, uG (QC.sc (rd := [(14, 0, 0), (15, 0, 0)]) (fc16 ((walkedF awakeF).2.reverse) [0, 2, 1, 3]) (.cons (.row rfl (.head _) rfl rfl (fun _ _ => rfl)) (.cons (.row rfl (.tail _ (.head _)) rfl rfl (fun i hi => by match i, hi with | 0, _ => rfl | 1, _ => rfl | 2, _ => rfl | 3, _ => rfl)) .nil)) rfl), ?_⟩
  conv => whnf
  ((repeat' first | refine AWp_seq ?_ | (refine AWp_reg tok (by rfl) ?_; conv => whnf) | (refine AWp_any tok mix (by rfl) ?_; conv => whnf) | refine AWp_block ?_ | (refine AWp_skip ?_; conv => whnf) | (refine AWp_exit ?_; conv => whnf) | (refine AWp_ret ?_; conv => whnf) | refine AWp_cond rfl (fun hb => ?_) (fun hb => ?_) | (refine @And.intro (underG _ _ _ _) _ ?_ ?_; rotate_left; (conv => whnf); rotate_right) | (refine fun (bn : Bool) (hbn : (0 < _ → bn = _)) => ?_; conv => whnf)); all_goals (try ((first | refine underG_none ?_ | (refine underG_some ?_; intro hgd; conv at hgd => whnf)); (first | refine And.intro (srcObl_rs rfl ?_) ?_ | refine And.intro srcObl_sl ?_ | refine And.intro srcObl_nsl ?_ | skip); (all_goals (try simp only [underG, true_and, and_true, Bool.cond_true_left, Bool.cond_false_left, Bool.cond_true_right, Bool.cond_false_right, Bool.or_eq_true, Bool.and_eq_true, Bool.or_eq_false_iff, Bool.and_eq_false_iff, cond_true, cond_false, Bool.not_eq_eq_eq_not, Bool.not_true, Bool.not_false, decide_eq_true_eq, decide_eq_false_iff_not, Int.toNat_natCast, Nat.zero_add, Decidable.not_not, maxL] at *)); all_goals omega)))
  refine .inl ⟨_, _, _, uG (QC.fo (rd := [(11, 0, 0)]) (fo19 awakeF 3) (awR2 rfl) (.inr (fun _ _ => rfl)) rfl), ?_⟩
  conv => whnf
  ((repeat' first | refine AWp_seq ?_ | (refine AWp_reg tok (by rfl) ?_; conv => whnf) | (refine AWp_any tok mix (by rfl) ?_; conv => whnf) | refine AWp_block ?_ | (refine AWp_skip ?_; conv => whnf) | (refine AWp_exit ?_; conv => whnf) | (refine AWp_ret ?_; conv => whnf) | refine AWp_cond rfl (fun hb => ?_) (fun hb => ?_) | (refine @And.intro (underG _ _ _ _) _ ?_ ?_; rotate_left; (conv => whnf); rotate_right) | (refine fun (bn : Bool) (hbn : (0 < _ → bn = _)) => ?_; conv => whnf)); all_goals (try ((first | refine underG_none ?_ | (refine underG_some ?_; intro hgd; conv at hgd => whnf)); (first | refine And.intro (srcObl_rs rfl ?_) ?_ | refine And.intro srcObl_sl ?_ | refine And.intro srcObl_nsl ?_ | skip); (all_goals (try simp only [underG, true_and, and_true, Bool.cond_true_left, Bool.cond_false_left, Bool.cond_true_right, Bool.cond_false_right, Bool.or_eq_true, Bool.and_eq_true, Bool.or_eq_false_iff, Bool.and_eq_false_iff, cond_true, cond_false, Bool.not_eq_eq_eq_not, Bool.not_true, Bool.not_false, decide_eq_true_eq, decide_eq_false_iff_not, Int.toNat_natCast, Nat.zero_add, Decidable.not_not, maxL] at *)); all_goals omega)))
  refine .inl ⟨_, _, _, uG (QC.sc (rd := [(19, 0, 0), (20, 0, 0)]) (fc16 (before awakeF 3) [1, 2]) (.cons (.row rfl (.head _) rfl rfl (fun _ _ => rfl)) (.cons (.row rfl (.tail _ (.head _)) rfl rfl (fun i hi => by match i, hi with | 0, _ => rfl | 1, _ => rfl)) .nil)) rfl), ?_⟩
  conv => whnf
  ((repeat' first | refine AWp_seq ?_ | (refine AWp_reg tok (by rfl) ?_; conv => whnf) | (refine AWp_any tok mix (by rfl) ?_; conv => whnf) | refine AWp_block ?_ | (refine AWp_skip ?_; conv => whnf) | (refine AWp_exit ?_; conv => whnf) | (refine AWp_ret ?_; conv => whnf) | refine AWp_cond rfl (fun hb => ?_) (fun hb => ?_) | (refine @And.intro (underG _ _ _ _) _ ?_ ?_; rotate_left; (conv => whnf); rotate_right) | (refine fun (bn : Bool) (hbn : (0 < _ → bn = _)) => ?_; conv => whnf)); all_goals (try ((first | refine underG_none ?_ | (refine underG_some ?_; intro hgd; conv at hgd => whnf)); (first | refine And.intro (srcObl_rs rfl ?_) ?_ | refine And.intro srcObl_sl ?_ | refine And.intro srcObl_nsl ?_ | skip); (all_goals (try simp only [underG, true_and, and_true, Bool.cond_true_left, Bool.cond_false_left, Bool.cond_true_right, Bool.cond_false_right, Bool.or_eq_true, Bool.and_eq_true, Bool.or_eq_false_iff, Bool.and_eq_false_iff, cond_true, cond_false, Bool.not_eq_eq_eq_not, Bool.not_true, Bool.not_false, decide_eq_true_eq, decide_eq_false_iff_not, Int.toNat_natCast, Nat.zero_add, Decidable.not_not, maxL] at *)); all_goals omega)))
  refine .inl ⟨_, _, _, uG (QC.fo (rd := [(11, 0, 0)]) (fo17 awakeF 0) (awR2 rfl) (.inr (fun _ _ => rfl)) rfl), ?_⟩
  conv => whnf
  ((repeat' first | refine AWp_seq ?_ | (refine AWp_reg tok (by rfl) ?_; conv => whnf) | (refine AWp_any tok mix (by rfl) ?_; conv => whnf) | refine AWp_block ?_ | (refine AWp_skip ?_; conv => whnf) | (refine AWp_exit ?_; conv => whnf) | (refine AWp_ret ?_; conv => whnf) | refine AWp_cond rfl (fun hb => ?_) (fun hb => ?_) | (refine @And.intro (underG _ _ _ _) _ ?_ ?_; rotate_left; (conv => whnf); rotate_right) | (refine fun (bn : Bool) (hbn : (0 < _ → bn = _)) => ?_; conv => whnf)); all_goals (try ((first | refine underG_none ?_ | (refine underG_some ?_; intro hgd; conv at hgd => whnf)); (first | refine And.intro (srcObl_rs rfl ?_) ?_ | refine And.intro srcObl_sl ?_ | refine And.intro srcObl_nsl ?_ | skip); (all_goals (try simp only [underG, true_and, and_true, Bool.cond_true_left, Bool.cond_false_left, Bool.cond_true_right, Bool.cond_false_right, Bool.or_eq_true, Bool.and_eq_true, Bool.or_eq_false_iff, Bool.and_eq_false_iff, cond_true, cond_false, Bool.not_eq_eq_eq_not, Bool.not_true, Bool.not_false, decide_eq_true_eq, decide_eq_false_iff_not, Int.toNat_natCast, Nat.zero_add, Decidable.not_not, maxL] at *)); all_goals omega)))
  refine .inl ⟨_, _, _, uG (QC.sc (rd := [(25, 0, 0), (26, 0, 0)]) (fc16 (next awakeF 0) [1, 2]) (.cons (.row rfl (.head _) rfl rfl (fun _ _ => rfl)) (.cons (.row rfl (.tail _ (.head _)) rfl rfl (fun i hi => by match i, hi with | 0, _ => rfl | 1, _ => rfl)) .nil)) rfl), ?_⟩
  conv => whnf
  ((repeat' first | refine AWp_seq ?_ | (refine AWp_reg tok (by rfl) ?_; conv => whnf) | (refine AWp_any tok mix (by rfl) ?_; conv => whnf) | refine AWp_block ?_ | (refine AWp_skip ?_; conv => whnf) | (refine AWp_exit ?_; conv => whnf) | (refine AWp_ret ?_; conv => whnf) | refine AWp_cond rfl (fun hb => ?_) (fun hb => ?_) | (refine @And.intro (underG _ _ _ _) _ ?_ ?_; rotate_left; (conv => whnf); rotate_right) | (refine fun (bn : Bool) (hbn : (0 < _ → bn = _)) => ?_; conv => whnf)); all_goals (try ((first | refine underG_none ?_ | (refine underG_some ?_; intro hgd; conv at hgd => whnf)); (first | refine And.intro (srcObl_rs rfl ?_) ?_ | refine And.intro srcObl_sl ?_ | refine And.intro srcObl_nsl ?_ | skip); (all_goals (try simp only [underG, true_and, and_true, Bool.cond_true_left, Bool.cond_false_left, Bool.cond_true_right, Bool.cond_false_right, Bool.or_eq_true, Bool.and_eq_true, Bool.or_eq_false_iff, Bool.and_eq_false_iff, cond_true, cond_false, Bool.not_eq_eq_eq_not, Bool.not_true, Bool.not_false, decide_eq_true_eq, decide_eq_false_iff_not, Int.toNat_natCast, Nat.zero_add, Decidable.not_not, maxL] at *)); all_goals omega)))
  refine .inl ⟨_, _, _, uG (QC.fo (rd := [(11, 0, 0)]) (fo22 awakeF) (awR rfl) (.inr (fun _ _ => rfl)) rfl), ?_⟩
  conv => whnf
  ((repeat' first | refine AWp_seq ?_ | (refine AWp_reg tok (by rfl) ?_; conv => whnf) | (refine AWp_any tok mix (by rfl) ?_; conv => whnf) | refine AWp_block ?_ | (refine AWp_skip ?_; conv => whnf) | (refine AWp_exit ?_; conv => whnf) | (refine AWp_ret ?_; conv => whnf) | refine AWp_cond rfl (fun hb => ?_) (fun hb => ?_) | (refine @And.intro (underG _ _ _ _) _ ?_ ?_; rotate_left; (conv => whnf); rotate_right) | (refine fun (bn : Bool) (hbn : (0 < _ → bn = _)) => ?_; conv => whnf)); all_goals (try ((first | refine underG_none ?_ | (refine underG_some ?_; intro hgd; conv at hgd => whnf)); (first | refine And.intro (srcObl_rs rfl ?_) ?_ | refine And.intro srcObl_sl ?_ | refine And.intro srcObl_nsl ?_ | skip); (all_goals (try simp only [underG, true_and, and_true, Bool.cond_true_left, Bool.cond_false_left, Bool.cond_true_right, Bool.cond_false_right, Bool.or_eq_true, Bool.and_eq_true, Bool.or_eq_false_iff, Bool.and_eq_false_iff, cond_true, cond_false, Bool.not_eq_eq_eq_not, Bool.not_true, Bool.not_false, decide_eq_true_eq, decide_eq_false_iff_not, Int.toNat_natCast, Nat.zero_add, Decidable.not_not, maxL] at *)); all_goals omega)))
  refine ⟨_, rfl, Rel.bool ?_⟩
  trace_state
  rw [aw1, aw2, aw3]
  decide
end Go.Proofs.Ytmkiahbnfmpieaa
namespace Go.Proofs.Ytmkiahbnfmpieaa
open Go Dv
set_option maxRecDepth 10000
set_option linter.unusedSimpArgs false
theorem fc6 (F : Func) (n : Int) : FC Try.prog 6 [.agg (encFunc F), iv n] (.bool true) := by
  refine FC_intro tok Try.func6 rfl (by decide +kernel) (Nat.le_of_ble_eq_true rfl) ?_
  ((repeat' first | refine AWp_seq ?_ | (refine AWp_reg tok (by rfl) ?_; conv => whnf) | (refine AWp_any tok mix (by rfl) ?_; conv => whnf) | refine AWp_block ?_ | (refine AWp_skip ?_; conv => whnf) | (refine AWp_exit ?_; conv => whnf) | (refine AWp_ret ?_; conv => whnf) | refine AWp_cond rfl (fun hb => ?_) (fun hb => ?_) | (refine @And.intro (underG _ _ _ _) _ ?_ ?_; rotate_left; (conv => whnf); rotate_right) | (refine fun (bn : Bool) (hbn : (0 < _ → bn = _)) => ?_; conv => whnf)); all_goals (try ((first | refine underG_none ?_ | (refine underG_some ?_; intro hgd; conv at hgd => whnf)); (first | refine And.intro (srcObl_rs rfl ?_) ?_ | refine And.intro srcObl_sl ?_ | refine And.intro srcObl_nsl ?_ | skip); (all_goals (try simp only [underG, true_and, and_true, Bool.cond_true_left, Bool.cond_false_left, Bool.cond_true_right, Bool.cond_false_right, Bool.or_eq_true, Bool.and_eq_true, Bool.or_eq_false_iff, Bool.and_eq_false_iff, cond_true, cond_false, Bool.not_eq_eq_eq_not, Bool.not_true, Bool.not_false, decide_eq_true_eq, decide_eq_false_iff_not, Int.toNat_natCast, Nat.zero_add, Decidable.not_not, maxL] at *)); all_goals omega)))
  refine .inl ⟨_, _, _, uG (QC.fc fc15 rfl), ?_⟩
  conv => whnf
  ((repeat' first | refine AWp_seq ?_ | (refine AWp_reg tok (by rfl) ?_; conv => whnf) | (refine AWp_any tok mix (by rfl) ?_; conv => whnf) | refine AWp_block ?_ | (refine AWp_skip ?_; conv => whnf) | (refine AWp_exit ?_; conv => whnf) | (refine AWp_ret ?_; conv => whnf) | refine AWp_cond rfl (fun hb => ?_) (fun hb => ?_) | (refine @And.intro (underG _ _ _ _) _ ?_ ?_; rotate_left; (conv => whnf); rotate_right) | (refine fun (bn : Bool) (hbn : (0 < _ → bn = _)) => ?_; conv => whnf)); all_goals (try ((first | refine underG_none ?_ | (refine underG_some ?_; intro hgd; conv at hgd => whnf)); (first | refine And.intro (srcObl_rs rfl ?_) ?_ | refine And.intro srcObl_sl ?_ | refine And.intro srcObl_nsl ?_ | skip); (all_goals (try simp only [underG, true_and, and_true, Bool.cond_true_left, Bool.cond_false_left, Bool.cond_true_right, Bool.cond_false_right, Bool.or_eq_true, Bool.and_eq_true, Bool.or_eq_false_iff, Bool.and_eq_false_iff, cond_true, cond_false, Bool.not_eq_eq_eq_not, Bool.not_true, Bool.not_false, decide_eq_true_eq, decide_eq_false_iff_not, Int.toNat_natCast, Nat.zero_add, Decidable.not_not, maxL] at *)); all_goals omega)))
  · cases hb
  · exact ⟨_, rfl, Rel.bool rfl⟩
  have hF : F.blocks.length ≤ 70 := by simp only [underG, true_and, and_true, Bool.cond_true_left, Bool.cond_false_left, Bool.cond_true_right, Bool.cond_false_right, Bool.or_eq_true, Bool.and_eq_true, Bool.or_eq_false_iff, Bool.and_eq_false_iff, cond_true, cond_false, Bool.not_eq_eq_eq_not, Bool.not_true, Bool.not_false, decide_eq_true_eq, decide_eq_false_iff_not, Int.toNat_natCast, Nat.zero_add, Decidable.not_not, maxL] at *; omega
  refine .inl ⟨_, _, _, uG (QC.fo (rd := []) (fo17 F n) (.cons (.imm rfl) (.cons (.imm rfl) .nil)) (.inl rfl) rfl), ?_⟩
  conv => whnf
  ((repeat' first | refine AWp_seq ?_ | (refine AWp_reg tok (by rfl) ?_; conv => whnf) | (refine AWp_any tok mix (by rfl) ?_; conv => whnf) | refine AWp_block ?_ | (refine AWp_skip ?_; conv => whnf) | (refine AWp_exit ?_; conv => whnf) | (refine AWp_ret ?_; conv => whnf) | refine AWp_cond rfl (fun hb => ?_) (fun hb => ?_) | (refine @And.intro (underG _ _ _ _) _ ?_ ?_; rotate_left; (conv => whnf); rotate_right) | (refine fun (bn : Bool) (hbn : (0 < _ → bn = _)) => ?_; conv => whnf)); all_goals (try ((first | refine underG_none ?_ | (refine underG_some ?_; intro hgd; conv at hgd => whnf)); (first | refine And.intro (srcObl_rs rfl ?_) ?_ | refine And.intro srcObl_sl ?_ | refine And.intro srcObl_nsl ?_ | skip); (all_goals (try simp only [underG, true_and, and_true, Bool.cond_true_left, Bool.cond_false_left, Bool.cond_true_right, Bool.cond_false_right, Bool.or_eq_true, Bool.and_eq_true, Bool.or_eq_false_iff, Bool.and_eq_false_iff, cond_true, cond_false, Bool.not_eq_eq_eq_not, Bool.not_true, Bool.not_false, decide_eq_true_eq, decide_eq_false_iff_not, Int.toNat_natCast, Nat.zero_add, Decidable.not_not, maxL] at *)); all_goals omega)))
  refine .inl ⟨_, _, _, uG (QC.fc (fc18 F n) rfl), ?_⟩
  conv => whnf
  ((repeat' first | refine AWp_seq ?_ | (refine AWp_reg tok (by rfl) ?_; conv => whnf) | (refine AWp_any tok mix (by rfl) ?_; conv => whnf) | refine AWp_block ?_ | (refine AWp_skip ?_; conv => whnf) | (refine AWp_exit ?_; conv => whnf) | (refine AWp_ret ?_; conv => whnf) | refine AWp_cond rfl (fun hb => ?_) (fun hb => ?_) | (refine @And.intro (underG _ _ _ _) _ ?_ ?_; rotate_left; (conv => whnf); rotate_right) | (refine fun (bn : Bool) (hbn : (0 < _ → bn = _)) => ?_; conv => whnf)); all_goals (try ((first | refine underG_none ?_ | (refine underG_some ?_; intro hgd; conv at hgd => whnf)); (first | refine And.intro (srcObl_rs rfl ?_) ?_ | refine And.intro srcObl_sl ?_ | refine And.intro srcObl_nsl ?_ | skip); (all_goals (try simp only [underG, true_and, and_true, Bool.cond_true_left, Bool.cond_false_left, Bool.cond_true_right, Bool.cond_false_right, Bool.or_eq_true, Bool.and_eq_true, Bool.or_eq_false_iff, Bool.and_eq_false_iff, cond_true, cond_false, Bool.not_eq_eq_eq_not, Bool.not_true, Bool.not_false, decide_eq_true_eq, decide_eq_false_iff_not, Int.toNat_natCast, Nat.zero_add, Decidable.not_not, maxL] at *)); all_goals omega)))
  refine .inl ⟨_, _, _, uG (QC.sc (rd := [(13, 0, 0)]) (fc16 (next F n) (next F n)) (.cons (.row rfl (.head _) rfl rfl (fun _ _ => rfl)) (.cons (.imm rfl) .nil)) rfl), ?_⟩
  conv => whnf
  ((repeat' first | refine AWp_seq ?_ | (refine AWp_reg tok (by rfl) ?_; conv => whnf) | (refine AWp_any tok mix (by rfl) ?_; conv => whnf) | refine AWp_block ?_ | (refine AWp_skip ?_; conv => whnf) | (refine AWp_exit ?_; conv => whnf) | (refine AWp_ret ?_; conv => whnf) | refine AWp_cond rfl (fun hb => ?_) (fun hb => ?_) | (refine @And.intro (underG _ _ _ _) _ ?_ ?_; rotate_left; (conv => whnf); rotate_right) | (refine fun (bn : Bool) (hbn : (0 < _ → bn = _)) => ?_; conv => whnf)); all_goals (try ((first | refine underG_none ?_ | (refine underG_some ?_; intro hgd; conv at hgd => whnf)); (first | refine And.intro (srcObl_rs rfl ?_) ?_ | refine And.intro srcObl_sl ?_ | refine And.intro srcObl_nsl ?_ | skip); (all_goals (try simp only [underG, true_and, and_true, Bool.cond_true_left, Bool.cond_false_left, Bool.cond_true_right, Bool.cond_false_right, Bool.or_eq_true, Bool.and_eq_true, Bool.or_eq_false_iff, Bool.and_eq_false_iff, cond_true, cond_false, Bool.not_eq_eq_eq_not, Bool.not_true, Bool.not_false, decide_eq_true_eq, decide_eq_false_iff_not, Int.toNat_natCast, Nat.zero_add, Decidable.not_not, maxL] at *)); all_goals omega)))
  refine .inl ⟨_, _, _, uG (QC.fo (rd := []) (fo19 F n) (.cons (.imm rfl) (.cons (.imm rfl) .nil)) (.inl rfl) rfl), ?_⟩
  conv => whnf
  ((repeat' first | refine AWp_seq ?_ | (refine AWp_reg tok (by rfl) ?_; conv => whnf) | (refine AWp_any tok mix (by rfl) ?_; conv => whnf) | refine AWp_block ?_ | (refine AWp_skip ?_; conv => whnf) | (refine AWp_exit ?_; conv => whnf) | (refine AWp_ret ?_; conv => whnf) | refine AWp_cond rfl (fun hb => ?_) (fun hb => ?_) | (refine @And.intro (underG _ _ _ _) _ ?_ ?_; rotate_left; (conv => whnf); rotate_right) | (refine fun (bn : Bool) (hbn : (0 < _ → bn = _)) => ?_; conv => whnf)); all_goals (try ((first | refine underG_none ?_ | (refine underG_some ?_; intro hgd; conv at hgd => whnf)); (first | refine And.intro (srcObl_rs rfl ?_) ?_ | refine And.intro srcObl_sl ?_ | refine And.intro srcObl_nsl ?_ | skip); (all_goals (try simp only [underG, true_and, and_true, Bool.cond_true_left, Bool.cond_false_left, Bool.cond_true_right, Bool.cond_false_right, Bool.or_eq_true, Bool.and_eq_true, Bool.or_eq_false_iff, Bool.and_eq_false_iff, cond_true, cond_false, Bool.not_eq_eq_eq_not, Bool.not_true, Bool.not_false, decide_eq_true_eq, decide_eq_false_iff_not, Int.toNat_natCast, Nat.zero_add, Decidable.not_not, maxL] at *)); all_goals omega)))
  refine .inl ⟨_, _, _, uG (QC.fc (fc20 F n) rfl), ?_⟩
  conv => whnf
  ((repeat' first | refine AWp_seq ?_ | (refine AWp_reg tok (by rfl) ?_; conv => whnf) | (refine AWp_any tok mix (by rfl) ?_; conv => whnf) | refine AWp_block ?_ | (refine AWp_skip ?_; conv => whnf) | (refine AWp_exit ?_; conv => whnf) | (refine AWp_ret ?_; conv => whnf) | refine AWp_cond rfl (fun hb => ?_) (fun hb => ?_) | (refine @And.intro (underG _ _ _ _) _ ?_ ?_; rotate_left; (conv => whnf); rotate_right) | (refine fun (bn : Bool) (hbn : (0 < _ → bn = _)) => ?_; conv => whnf)); all_goals (try ((first | refine underG_none ?_ | (refine underG_some ?_; intro hgd; conv at hgd => whnf)); (first | refine And.intro (srcObl_rs rfl ?_) ?_ | refine And.intro srcObl_sl ?_ | refine And.intro srcObl_nsl ?_ | skip); (all_goals (try simp only [underG, true_and, and_true, Bool.cond_true_left, Bool.cond_false_left, Bool.cond_true_right, Bool.cond_false_right, Bool.or_eq_true, Bool.and_eq_true, Bool.or_eq_false_iff, Bool.and_eq_false_iff, cond_true, cond_false, Bool.not_eq_eq_eq_not, Bool.not_true, Bool.not_false, decide_eq_true_eq, decide_eq_false_iff_not, Int.toNat_natCast, Nat.zero_add, Decidable.not_not, maxL] at *)); all_goals omega)))
  refine .inl ⟨_, _, _, uG (QC.sc (rd := [(21, 0, 0)]) (fc16 (before F n) (before F n)) (.cons (.row rfl (.head _) rfl rfl (fun _ _ => rfl)) (.cons (.imm rfl) .nil)) rfl), ?_⟩
  conv => whnf
  ((repeat' first | refine AWp_seq ?_ | (refine AWp_reg tok (by rfl) ?_; conv => whnf) | (refine AWp_any tok mix (by rfl) ?_; conv => whnf) | refine AWp_block ?_ | (refine AWp_skip ?_; conv => whnf) | (refine AWp_exit ?_; conv => whnf) | (refine AWp_ret ?_; conv => whnf) | refine AWp_cond rfl (fun hb => ?_) (fun hb => ?_) | (refine @And.intro (underG _ _ _ _) _ ?_ ?_; rotate_left; (conv => whnf); rotate_right) | (refine fun (bn : Bool) (hbn : (0 < _ → bn = _)) => ?_; conv => whnf)); all_goals (try ((first | refine underG_none ?_ | (refine underG_some ?_; intro hgd; conv at hgd => whnf)); (first | refine And.intro (srcObl_rs rfl ?_) ?_ | refine And.intro srcObl_sl ?_ | refine And.intro srcObl_nsl ?_ | skip); (all_goals (try simp only [underG, true_and, and_true, Bool.cond_true_left, Bool.cond_false_left, Bool.cond_true_right, Bool.cond_false_right, Bool.or_eq_true, Bool.and_eq_true, Bool.or_eq_false_iff, Bool.and_eq_false_iff, cond_true, cond_false, Bool.not_eq_eq_eq_not, Bool.not_true, Bool.not_false, decide_eq_true_eq, decide_eq_false_iff_not, Int.toNat_natCast, Nat.zero_add, Decidable.not_not, maxL] at *)); all_goals omega)))
  refine .inl ⟨_, _, _, uG (QC.fo (rd := []) (fo22 F) (.cons (.imm rfl) .nil) (.inl rfl) rfl), ?_⟩
  conv => whnf
  ((repeat' first | refine AWp_seq ?_ | (refine AWp_reg tok (by rfl) ?_; conv => whnf) | (refine AWp_any tok mix (by rfl) ?_; conv => whnf) | refine AWp_block ?_ | (refine AWp_skip ?_; conv => whnf) | (refine AWp_exit ?_; conv => whnf) | (refine AWp_ret ?_; conv => whnf) | refine AWp_cond rfl (fun hb => ?_) (fun hb => ?_) | (refine @And.intro (underG _ _ _ _) _ ?_ ?_; rotate_left; (conv => whnf); rotate_right) | (refine fun (bn : Bool) (hbn : (0 < _ → bn = _)) => ?_; conv => whnf)); all_goals (try ((first | refine underG_none ?_ | (refine underG_some ?_; intro hgd; conv at hgd => whnf)); (first | refine And.intro (srcObl_rs rfl ?_) ?_ | refine And.intro srcObl_sl ?_ | refine And.intro srcObl_nsl ?_ | skip); (all_goals (try simp only [underG, true_and, and_true, Bool.cond_true_left, Bool.cond_false_left, Bool.cond_true_right, Bool.cond_false_right, Bool.or_eq_true, Bool.and_eq_true, Bool.or_eq_false_iff, Bool.and_eq_false_iff, cond_true, cond_false, Bool.not_eq_eq_eq_not, Bool.not_true, Bool.not_false, decide_eq_true_eq, decide_eq_false_iff_not, Int.toNat_natCast, Nat.zero_add, Decidable.not_not, maxL] at *)); all_goals omega)))
  refine .inl ⟨_, _, _, uG (QC.fc (fc23 F) rfl), ?_⟩
  conv => whnf
  ((repeat' first | refine AWp_seq ?_ | (refine AWp_reg tok (by rfl) ?_; conv => whnf) | (refine AWp_any tok mix (by rfl) ?_; conv => whnf) | refine AWp_block ?_ | (refine AWp_skip ?_; conv => whnf) | (refine AWp_exit ?_; conv => whnf) | (refine AWp_ret ?_; conv => whnf) | refine AWp_cond rfl (fun hb => ?_) (fun hb => ?_) | (refine @And.intro (underG _ _ _ _) _ ?_ ?_; rotate_left; (conv => whnf); rotate_right) | (refine fun (bn : Bool) (hbn : (0 < _ → bn = _)) => ?_; conv => whnf)); all_goals (try ((first | refine underG_none ?_ | (refine underG_some ?_; intro hgd; conv at hgd => whnf)); (first | refine And.intro (srcObl_rs rfl ?_) ?_ | refine And.intro srcObl_sl ?_ | refine And.intro srcObl_nsl ?_ | skip); (all_goals (try simp only [underG, true_and, and_true, Bool.cond_true_left, Bool.cond_false_left, Bool.cond_true_right, Bool.cond_false_right, Bool.or_eq_true, Bool.and_eq_true, Bool.or_eq_false_iff, Bool.and_eq_false_iff, cond_true, cond_false, Bool.not_eq_eq_eq_not, Bool.not_true, Bool.not_false, decide_eq_true_eq, decide_eq_false_iff_not, Int.toNat_natCast, Nat.zero_add, Decidable.not_not, maxL] at *)); all_goals omega)))
  refine .inl ⟨_, _, _, uG (QC.sc (rd := [(29, 0, 0)]) (fc21 (walkedF F).1 (reachB F)) (.cons (.row rfl (.head _) rfl (by rw [walked_reach, reachB_len]) (fun _ _ => rfl)) (.cons (.imm rfl) .nil)) rfl), ?_⟩
  conv => whnf
  ((repeat' first | refine AWp_seq ?_ | (refine AWp_reg tok (by rfl) ?_; conv => whnf) | (refine AWp_any tok mix (by rfl) ?_; conv => whnf) | refine AWp_block ?_ | (refine AWp_skip ?_; conv => whnf) | (refine AWp_exit ?_; conv => whnf) | (refine AWp_ret ?_; conv => whnf) | refine AWp_cond rfl (fun hb => ?_) (fun hb => ?_) | (refine @And.intro (underG _ _ _ _) _ ?_ ?_; rotate_left; (conv => whnf); rotate_right) | (refine fun (bn : Bool) (hbn : (0 < _ → bn = _)) => ?_; conv => whnf)); all_goals (try ((first | refine underG_none ?_ | (refine underG_some ?_; intro hgd; conv at hgd => whnf)); (first | refine And.intro (srcObl_rs rfl ?_) ?_ | refine And.intro srcObl_sl ?_ | refine And.intro srcObl_nsl ?_ | skip); (all_goals (try simp only [underG, true_and, and_true, Bool.cond_true_left, Bool.cond_false_left, Bool.cond_true_right, Bool.cond_false_right, Bool.or_eq_true, Bool.and_eq_true, Bool.or_eq_false_iff, Bool.and_eq_false_iff, cond_true, cond_false, Bool.not_eq_eq_eq_not, Bool.not_true, Bool.not_false, decide_eq_true_eq, decide_eq_false_iff_not, Int.toNat_natCast, Nat.zero_add, Decidable.not_not, maxL] at *)); all_goals omega)))
  refine .inl ⟨_, _, _, uG (QC.fo (rd := []) (fo24 F) (.cons (.imm rfl) .nil) (.inl rfl) rfl), ?_⟩
  conv => whnf
  ((repeat' first | refine AWp_seq ?_ | (refine AWp_reg tok (by rfl) ?_; conv => whnf) | (refine AWp_any tok mix (by rfl) ?_; conv => whnf) | refine AWp_block ?_ | (refine AWp_skip ?_; conv => whnf) | (refine AWp_exit ?_; conv => whnf) | (refine AWp_ret ?_; conv => whnf) | refine AWp_cond rfl (fun hb => ?_) (fun hb => ?_) | (refine @And.intro (underG _ _ _ _) _ ?_ ?_; rotate_left; (conv => whnf); rotate_right) | (refine fun (bn : Bool) (hbn : (0 < _ → bn = _)) => ?_; conv => whnf)); all_goals (try ((first | refine underG_none ?_ | (refine underG_some ?_; intro hgd; conv at hgd => whnf)); (first | refine And.intro (srcObl_rs rfl ?_) ?_ | refine And.intro srcObl_sl ?_ | refine And.intro srcObl_nsl ?_ | skip); (all_goals (try simp only [underG, true_and, and_true, Bool.cond_true_left, Bool.cond_false_left, Bool.cond_true_right, Bool.cond_false_right, Bool.or_eq_true, Bool.and_eq_true, Bool.or_eq_false_iff, Bool.and_eq_false_iff, cond_true, cond_false, Bool.not_eq_eq_eq_not, Bool.not_true, Bool.not_false, decide_eq_true_eq, decide_eq_false_iff_not, Int.toNat_natCast, Nat.zero_add, Decidable.not_not, maxL] at *)); all_goals omega)))
  refine .inl ⟨_, _, _, uG (QC.fc (fc25 F hF) rfl), ?_⟩
  conv => whnf
  ((repeat' first | refine AWp_seq ?_ | (refine AWp_reg tok (by rfl) ?_; conv => whnf) | (refine AWp_any tok mix (by rfl) ?_; conv => whnf) | refine AWp_block ?_ | (refine AWp_skip ?_; conv => whnf) | (refine AWp_exit ?_; conv => whnf) | (refine AWp_ret ?_; conv => whnf) | refine AWp_cond rfl (fun hb => ?_) (fun hb => ?_) | (refine @And.intro (underG _ _ _ _) _ ?_ ?_; rotate_left; (conv => whnf); rotate_right) | (refine fun (bn : Bool) (hbn : (0 < _ → bn = _)) => ?_; conv => whnf)); all_goals (try ((first | refine underG_none ?_ | (refine underG_some ?_; intro hgd; conv at hgd => whnf)); (first | refine And.intro (srcObl_rs rfl ?_) ?_ | refine And.intro srcObl_sl ?_ | refine And.intro srcObl_nsl ?_ | skip); (all_goals (try simp only [underG, true_and, and_true, Bool.cond_true_left, Bool.cond_false_left, Bool.cond_true_right, Bool.cond_false_right, Bool.or_eq_true, Bool.and_eq_true, Bool.or_eq_false_iff, Bool.and_eq_false_iff, cond_true, cond_false, Bool.not_eq_eq_eq_not, Bool.not_true, Bool.not_false, decide_eq_true_eq, decide_eq_false_iff_not, Int.toNat_natCast, Nat.zero_add, Decidable.not_not, maxL] at *)); all_goals omega)))
  refine .inl ⟨_, _, _, uG (QC.sc (rd := [(36, 0, 0)]) (fc16 (walkedF F).2.reverse (walkedF F).2.reverse) (.cons (.row rfl (.head _) rfl rfl (fun _ _ => rfl)) (.cons (.imm rfl) .nil)) rfl), ?_⟩
  conv => whnf
  ((repeat' first | refine AWp_seq ?_ | (refine AWp_reg tok (by rfl) ?_; conv => whnf) | (refine AWp_any tok mix (by rfl) ?_; conv => whnf) | refine AWp_block ?_ | (refine AWp_skip ?_; conv => whnf) | (refine AWp_exit ?_; conv => whnf) | (refine AWp_ret ?_; conv => whnf) | refine AWp_cond rfl (fun hb => ?_) (fun hb => ?_) | (refine @And.intro (underG _ _ _ _) _ ?_ ?_; rotate_left; (conv => whnf); rotate_right) | (refine fun (bn : Bool) (hbn : (0 < _ → bn = _)) => ?_; conv => whnf)); all_goals (try ((first | refine underG_none ?_ | (refine underG_some ?_; intro hgd; conv at hgd => whnf)); (first | refine And.intro (srcObl_rs rfl ?_) ?_ | refine And.intro srcObl_sl ?_ | refine And.intro srcObl_nsl ?_ | skip); (all_goals (try simp only [underG, true_and, and_true, Bool.cond_true_left, Bool.cond_false_left, Bool.cond_true_right, Bool.cond_false_right, Bool.or_eq_true, Bool.and_eq_true, Bool.or_eq_false_iff, Bool.and_eq_false_iff, cond_true, cond_false, Bool.not_eq_eq_eq_not, Bool.not_true, Bool.not_false, decide_eq_true_eq, decide_eq_false_iff_not, Int.toNat_natCast, Nat.zero_add, Decidable.not_not, maxL] at *)); all_goals omega)))
  refine ⟨_, rfl, Rel.bool ?_⟩
  rw [walked_reach]
  simp
end Go.Proofs.Ytmkiahbnfmpieaa
namespace Go.Proofs.Ytmkiahbnfmpieaa
open Go Dv Go.ChangeShapes Go.WideShapes Go.ChangeAt Go.RowKit
open Go.Proofs.Ytmkiahbnfmpieaa
set_option maxRecDepth 10000
set_option linter.unusedVariables false
section
variable {H : Type} {enc : TypeId × Value → H} {w : World}
abbrev Sm (H : Type) : DataW H → Prop := fun d => Rows.uptoBulk d ≤ 1048576
theorem bulk_all {ds : List (DataW H)} {n : Nat} (h : Rows.uptoBulkAll ds ≤ n) : ∀ d ∈ ds, Rows.uptoBulk d ≤ n := by
  induction ds with
  | nil => intro d hd; cases hd
  | cons x r ih =>
    simp only [Rows.uptoBulkAll] at h
    intro d hd
    simp only [List.mem_cons] at hd
    rcases hd with rfl | hd
    · omega
    · exact ih (by omega) d hd
theorem bulk_pos (d : DataW H) : 1 ≤ Rows.uptoBulk d := by
  cases d with
  | lit l => cases l <;> simp only [Rows.uptoBulk] <;> omega
  | _ => simp only [Rows.uptoBulk]; omega
theorem bulk_len {ds : List (DataW H)} {n : Nat} (h : Rows.uptoBulkAll ds ≤ n) : ds.length ≤ n := by
  induction ds generalizing n with
  | nil => simp
  | cons x r ih =>
    simp only [Rows.uptoBulkAll] at h
    have := bulk_pos x
    have := ih (n := n - Rows.uptoBulk x) (by omega)
    simp only [List.length_cons]; omega
theorem sm_agg (ds : List (DataW H)) (h : Sm H (.agg ds)) : ∀ d ∈ ds, Sm H d := by
  simp only [Sm, Rows.uptoBulk] at h; exact bulk_all (by omega)
theorem sm_slice (es sp : List (DataW H)) (h : Sm H (.slice es sp)) : es.length ≤ maxL ∧ ∀ x ∈ es, Sm H x := by
  simp only [Sm, Rows.uptoBulk] at h
  have h1 : Rows.uptoBulkAll es ≤ 1048576 := by omega
  exact ⟨Nat.le_trans (bulk_len h1) (by decide), bulk_all h1⟩
theorem rd_int : Rd enc Try.prog w (Sm H) 3 Int (fun n => [iv n]) := Rd.int Try.underlying3
theorem rd_u16 : Rd enc Try.prog w (Sm H) 34 Int (fun n => [.int .u16 n]) := Rd.int Try.underlying34
theorem rd_bool : Rd enc Try.prog w (Sm H) 4 Bool (fun b => [.bool b]) := Rd.bool Try.underlying4
theorem rd_ints : Rd enc Try.prog w (Sm H) 26 (List Int) (fun l => [ints l]) := Rd.slice Try.underlying26 (by decide +kernel) (Nat.le_refl _) (fun _ => ⟨rfl, rfl⟩) rd_int sm_slice
theorem rd_u16s : Rd enc Try.prog w (Sm H) 22 (List Int) (fun l => [u16s l]) := Rd.slice Try.underlying22 (by decide +kernel) (Nat.le_refl _) (fun _ => ⟨rfl, rfl⟩) rd_u16 sm_slice
theorem rd_Ins : Rd enc Try.prog w (Sm H) 36 Ins encIns :=
  Rd.map (fun x => ⟨x.1, x.2.1, x.2.2.1, x.2.2.2.1, x.2.2.2.2.1, x.2.2.2.2.2.1, x.2.2.2.2.2.2.1⟩)
    (Rd.struct (fl := [(3, 1), (3, 1), (3, 1), (3, 1), (34, 1), (3, 1), (26, 1)]) Try.underlying36 (.cons rd_int (.cons rd_int (.cons rd_int (.cons rd_int (.cons rd_u16 (.cons rd_int (.cons rd_ints .nil)))))))
      rfl (by decide +kernel) (by decide +kernel) sm_agg) (fun _ => rfl)
theorem rd_inss : Rd enc Try.prog w (Sm H) 25 (List Ins) (fun l => [inss l]) := Rd.slice Try.underlying25 (by decide +kernel) (by decide) (fun _ => ⟨rfl, rfl⟩) rd_Ins sm_slice
theorem rd_End : Rd enc Try.prog w (Sm H) 28 End encEnd :=
  Rd.map (fun x => ⟨x.1, x.2.1, x.2.2.1, x.2.2.2.1, x.2.2.2.2.1, x.2.2.2.2.2.1, x.2.2.2.2.2.2.1, x.2.2.2.2.2.2.2.1⟩)
    (Rd.struct (fl := [(3, 1), (3, 1), (3, 1), (3, 1), (26, 1), (3, 1), (3, 1), (3, 1)]) Try.underlying28 (.cons rd_int (.cons rd_int (.cons rd_int (.cons rd_int (.cons rd_ints (.cons rd_int (.cons rd_int (.cons rd_int .nil))))))))
      rfl (by decide +kernel) (by decide +kernel) sm_agg) (fun _ => rfl)
def encPad (p : Pad) : List AV := [iv p.dst, u16s p.catch_, .bool p.all, .bool p.cleanup]
theorem rd_Pad : Rd enc Try.prog w (Sm H) 24 Pad encPad :=
  Rd.map (fun x => ⟨x.1, x.2.1, x.2.2.1, x.2.2.2.1⟩)
    (Rd.struct (fl := [(3, 1), (22, 1), (4, 1), (4, 1)]) Try.underlying24 (.cons rd_int (.cons rd_u16s (.cons rd_bool (.cons rd_bool .nil))))
      rfl (by decide +kernel) (by decide +kernel) sm_agg) (fun _ => rfl)
theorem rd_Block : Rd enc Try.prog w (Sm H) 30 Block encBlock :=
  Rd.map (fun x => ⟨x.1, x.2.1, x.2.2.1, x.2.2.2.1⟩)
    (Rd.struct (fl := [(4, 1), (24, 4), (25, 1), (28, 8)]) Try.underlying30 (.cons rd_bool (.cons rd_Pad (.cons rd_inss (.cons rd_End .nil))))
      rfl (by decide +kernel) (by decide +kernel) sm_agg) (fun _ => rfl)
theorem rd_blocks : Rd enc Try.prog w (Sm H) 40 (List Block) (fun l => [blockss l]) := Rd.slice Try.underlying40 (by decide +kernel) (by decide) (fun _ => ⟨rfl, rfl⟩) rd_Block sm_slice
theorem rd_Func : Rd enc Try.prog w (Sm H) 42 Func encFunc :=
  Rd.map (fun x => ⟨x.1, x.2.1, x.2.2.1⟩)
    (Rd.struct (fl := [(3, 1), (3, 1), (40, 1)]) Try.underlying42 (.cons rd_int (.cons rd_int (.cons rd_blocks .nil)))
      rfl (by decide +kernel) (by decide +kernel) sm_agg) (fun _ => rfl)
end
theorem small_of {H : Type} {ds gs : List (DataW H)} (hk : Rows.uptoSmall H (ds ++ gs) = true) : ∀ d ∈ ds, Sm H d := by
  have h := of_decide_eq_true hk
  exact fun d hd => bulk_all h d (List.mem_append_left _ hd)
end Go.Proofs.Ytmkiahbnfmpieaa
