/- A function of a cleared module stays when it is cleared, and a block put behind all others that nobody names goes again. -/
import Derived.Test.YtmanpbgaihdalaaDvc3
import Derived.Test.YtmanpbgaihdalaaLawDeadAll1
import Derived.RangeFuncGives
import Derived.Maps.AppendAt
import Derived.Shelf.Abstract
import Derived.WalkKit
import Derived.OwnWalkIn
import Derived.TacticsInMore
import Derived.RegionIn
import Derived.LoopNIn
import Derived.LoopIn
set_option linter.unusedVariables false
set_option linter.unusedSimpArgs false
set_option linter.unnecessarySimpa false
namespace Go.Proofs.Ytmanpbgaihdalaa
open Go Dv
set_option maxRecDepth 10000
set_option linter.unusedSimpArgs false
theorem c_lFunc (hpad : LPad) (m : Zay) (f : Func) : FC Try.prog 105 [.agg (Zba m), .agg (Za1 f)] (.bool (funcB m f)) := by
  refine Za5 tok Try.func105 rfl (by decide +kernel) (Nat.le_of_ble_eq_true rfl) ?_
  refine Zau 1 (fun hl => ?_)
  have hl0 : f.blocks.length ≤ maxL := hl.2.2.1.1
  ((repeat' first | refine Zad ?_ | (refine Zac tok (by rfl) ?_; conv => whnf) | refine Zaf ?_ | (refine Zai ?_; conv => whnf) | (refine Zak ?_; conv => whnf) | refine Zah rfl (fun hb => ?_) (fun hb => ?_) | (refine @And.intro (Zaa _ _ _ _) _ ?_ ?_; rotate_left; (conv => whnf); rotate_right)); all_goals (try ((guard_target = Zaa _ _ _ _); ((refine Zbn ?_; intro hgd; (conv at hgd => whnf))); (all_goals (try simp only [Zaa, kzz, kz11, kz12, maxL, Zab] at *)); all_goals omega)))
  · refine ⟨_, rfl, Rel.bool ?_⟩
    rw [show Int.toNat 0 = 0 from rfl] at hb
    unfold funcB
    have hF : decide (FunP f) = false := by
      rw [decide_eq_false_iff_not]; intro h; unfold FunP at h
      rw [h.2.2.2.2.2.2] at hb; simp [-List.length_eq_zero_iff] at hb; omega
    rw [hF]; rfl
  have hF : FunP f := by
    rw [show Int.toNat 0 = 0 from rfl] at hb
    unfold FunP
    cases hland : (f.blocks.getD 0 default).landing with
    | true => rw [hland] at hb; simp at hb
    | false => rw [hland] at hb; simp [-List.length_eq_zero_iff] at hb; refine ⟨?_, ?_, ?_, ?_, ?_, ?_, rfl⟩ <;> omega
  clear hb
  refine Zas (fun i : Nat => mkS [(4, .bool false), (5, .bp (5, 0, 0) 0), (51, iv f.blocks.length), (52, iv i)] [((5, 0, 0), .row true 4 1 (fun _ => encL m f))])
    (fun i => i ≤ f.blocks.length ∧ ∀ j, j < i → blkB m f (f.blocks.getD j default) = true) (fun i => f.blocks.length - i) 0 ⟨Nat.zero_le _, by simp⟩ ?_ ?_
  · refine Weak.list [((5, 0, 0), .old (5, 0, 0), .row true 4 1 (fun _ => encL m f))] rfl (by rfl) ?_ (.old rfl (BLe.rowW (Nat.le_refl _) (fun z hz => ?_)) .nil)
    · ((repeat' first | exact TLes.nil | refine TLes.cons (TLe.eq rfl) ?_); skip)
    · match z, hz with
      | 0, _ => exact Wks.of rfl
  rintro i ⟨hi, hc⟩
  (repeat' first | refine Zad ?_ | (refine Zac tok (by rfl) ?_; conv => whnf) | refine Zaf ?_ | (refine Zai ?_; conv => whnf) | (refine Zar ?_; conv => whnf) | (refine Zak ?_; conv => whnf) | refine Zah rfl (fun hb => ?_) (fun hb => ?_))
  · have hlt : i < f.blocks.length := by simp only [Zaa, kzz, kz11, kz12, maxL, Zab] at *; omega
    refine .inl ⟨_, _, _, uG (QC.fc (c_lblock hpad m f i hlt) rfl), ?_⟩
    conv => whnf
    (repeat' first | refine Zad ?_ | (refine Zac tok (by rfl) ?_; conv => whnf) | (refine Zai ?_; conv => whnf) | (refine Zak ?_; conv => whnf) | refine Zah rfl (fun hb => ?_) (fun hb => ?_))
    · refine ⟨_, rfl, Rel.bool ?_⟩
      unfold funcB
      rw [all_no default hlt (p := blkB m f) (by simpa using hb)]
      simp
    · refine ⟨i + 1, ⟨hlt, fun j hj => ?_⟩, by omega, ?_⟩
      · by_cases e : j = i
        · subst e; simpa using hb
        · exact hc j (by omega)
      refine Weak.list [((5, 0, 0), .old (5, 0, 0), .row true 4 1 (fun _ => encL m f))] rfl (by rfl) ?_ (.old rfl (BLe.refl _) .nil)
      ((repeat' first | exact TLes.nil | refine TLes.cons (TLe.eq rfl) ?_ | refine TLes.cons (TLe.int ?_) ?_); (all_goals first | ((try (simp only [Zaa, kzz, kz11, kz12, maxL, Zab] at *)); exact Zaj (by omega) (by omega)) | skip))
  · refine ⟨_, rfl, Rel.bool ?_⟩
    unfold funcB
    rw [decide_eq_true hF, all_yes default (fun j hj => hc j (by simp only [Zaa, kzz, kz11, kz12, maxL, Zab] at *; omega))]; rfl
theorem c_lRight1 (hpad : LPad) (m : Zay) (f : Func) : FC Try.prog 104 [.agg (Za1 f), .ip (Zba m)] (.bool (!funcB m f)) := by
  refine Za5 tok Try.func104 rfl (by decide +kernel) (Nat.le_of_ble_eq_true rfl) ?_
  (repeat' first | refine Zad ?_ | (refine Zac tok (by rfl) ?_; conv => whnf))
  refine .inl ⟨_, _, _, uG (QC.fc (c_lFunc hpad m f) rfl), ?_⟩
  conv => whnf
  (repeat' (refine Zak ?_; conv => whnf))
  exact ⟨_, rfl, Rel.imm rfl⟩
theorem c_lRight (hpad : LPad) (m : Zay) : FC Try.prog 62 [.agg (Zba m)] (.bool (Zdf m)) := by
  refine Za5 tok Try.func62 rfl (by decide +kernel) (Nat.le_of_ble_eq_true rfl) ?_
  refine Zau 0 (fun hl => ?_)
  have hl0 : m.funcs.length ≤ maxL := hl.1.1
  ((repeat' first | refine Zad ?_ | (refine Zac tok (by rfl) ?_; conv => whnf) | (refine Zai ?_; conv => whnf) | (refine Zak ?_; conv => whnf) | refine Zah rfl (fun hb => ?_) (fun hb => ?_) | (refine @And.intro (Zaa _ _ _ _) _ ?_ ?_; rotate_left; (conv => whnf); rotate_right)); all_goals (try ((guard_target = Zaa _ _ _ _); ((refine Zbn ?_; intro hgd; (conv at hgd => whnf))); (all_goals (try simp only [Zaa, kzz, kz11, kz12, maxL, Zab] at *)); all_goals omega)))
  · refine ⟨_, rfl, Rel.bool ?_⟩
    rw [show Int.toNat 0 = 0 from rfl] at hb
    unfold Zdf
    rw [decide_eq_false]
    · rfl
    · rintro ⟨h1, h2, h3⟩
      rw [h3] at hb; simp [-List.length_eq_zero_iff] at hb; omega
  have hF : 1 ≤ m.funcs.length ∧ m.funcs.length ≤ 16 ∧ (m.funcs.getD 0 default).params = 0 := by
    rw [show Int.toNat 0 = 0 from rfl] at hb
    simp only [Bool.cond_true_left, Bool.or_eq_false_iff] at hb
    refine ⟨?_, ?_, by simpa using hb.2⟩ <;> simp only [Zaa, kzz, kz11, kz12, maxL, Zab] at * <;> omega
  clear hb
  refine .inl ⟨_, _, _, uG (QC.sc (rd := [(1, 0, 0)]) (c_HasFunc (g := 104) (cap := [.ip (Zba m)]) (p := fun f => !funcB m f) rfl (fun f => c_lRight1 hpad m f) m.funcs) (.cons (.imm rfl) (.cons (.fn (.cons (.ip rfl (List.mem_singleton.2 rfl) (by decide) (Ress.imms rfl)) .nil)) .nil)) rfl), ?_⟩
  conv => whnf
  (repeat' (refine Zak ?_; conv => whnf))
  refine ⟨_, rfl, Rel.bool ?_⟩
  unfold Zdf
  rw [List.not_any_eq_all_not, decide_eq_true hF]
  simp
end Go.Proofs.Ytmanpbgaihdalaa
namespace Go.Proofs.Ytmanpbgaihdalaa
open Go Dv Go.RowKit Go.Maps Go.Sort Go.Shelf
set_option linter.unusedSimpArgs false
@[go_sem, reducible] def encU (k : Int) : Value := .int .u16 k
def SeqU (F : Fence) (n : Nat) (g : Nat) (lb : Array Value) (S : List Int → Prop) (N : Nat) (w : World) : Prop :=
  ∀ (l : Nat) (J : List Int → World → Prop) (W : World), RowKit.Below w.heap.size w W → (∀ pre W', J pre W' → RowKit.Below w.heap.size w W') →
    (∀ pre x W', J pre W' → pre.length < N → YieldAt F (n - 1) Try.prog l #[encU x] W' fun e W2 => e = .returned (.bool true) ∧ J (pre ++ [x]) W2 ∧ KeepsWalks W' W2) → J [] W →
    CallsIn F n Try.prog g (#[.func (.yield l) #[] #[]] ++ lb) W fun e W' => (∃ v, e = .returned v) ∧ ∃ ss, S ss ∧ J ss W'
def Sq.apAssign : Code := (Code.region 2 #[{ dst := some 5, op := Op.assign (Operand.tmp 7), type := 55, pos := "iter.go:51", after := #[], guard := none }] false)
def Sq.apBody : Code := (Code.block 1 (Code.region 3 #[{ dst := some 8, op := Op.load 37 (Operand.tmp 2), type := 37, pos := "iter.go:52", after := #[], guard := none }, { dst := some 9, op := Op.move (Operand.tmp 5), type := 55, pos := "iter.go:52", after := #[], guard := none }, { dst := some 10, op := Op.buildSlice 37 1 #[(0, Operand.tmp 9)], type := 37, pos := "iter.go:52", after := #[{ on := 1, ground := Ground.data }], guard := none }, { dst := some 11, op := Op.call { callee := Callee.builtin Builtin.append, args := #[Operand.tmp 8, Operand.tmp 10], argTypes := #[37, 37] }, type := 37, pos := "iter.go:52", after := #[{ on := 0, ground := Ground.data }, { on := 2, ground := Ground.data }], guard := none }, { dst := none, op := Op.store 37 (Operand.tmp 2) (Operand.tmp 11), type := 0, pos := "iter.go:52", after := #[{ on := 3, ground := Ground.data }, { on := 3, ground := Ground.chain }, { on := 0, ground := Ground.phase }, { on := 1, ground := Ground.phase }, { on := 2, ground := Ground.phase }, { on := 3, ground := Ground.phase }], guard := none }] false))
def Sq.apRec (fn : FuncId) (sv : Value) (Bs D : Nat) (st : LoopState) (pend : Option Code) : Loop :=
  { state := st, pending := pend, fn, tmps := #[.slice none 0 0, sv, .pointer (some ⟨Bs, 0, none⟩), undef, .slice none 0 0, undef, sv, undef, undef, undef, undef, undef, undef], params := #[7], assign := Sq.apAssign, body := Sq.apBody, defers := D }
structure Sq.ApAt (w0 : World) (fn : FuncId) (sv : Value) (Bs l D : Nat) (ss : List Int) (W : World) : Prop where
  box : ∃ v, W.heap[Bs]? = some (.cells #[v] 37 (0, 0)) ∧ W.ownsRow w0.heap.size 55 1 v ss.length (ss.map encU) ∧ (v = .slice none 0 0 ↔ ss = [])
  L : W.heap[l]? = some (.loop (Sq.apRec fn sv Bs D .ready none))
  K : W.heap[D]? = some (.deferred (some []))
  below : Below w0.heap.size w0 W
theorem Zcn (W : World) (l : Nat) (o : Obj) : W.grownBy (W.putObj l o) (some l) :=
  ⟨rfl, rfl, rfl, by simp, fun k _ hk => World.putObj_heap_other (fun e => hk (by rw [e]))⟩
theorem grownBy_setCell0 (W : World) (b : Nat) (v : Value) : W.grownBy (W.setCell ⟨b, 0, none⟩ v) (some b) :=
  ⟨rfl, rfl, rfl, (KeepsWalks.setCell W _ v).size, fun k _ hk => Below.heap_setCell _ _ _ k (fun e => hk (by rw [e]))⟩
theorem Zeg {W : World} {base : Nat} {e : TypeId} {size : Nat} {v : Value} {k : Nat} {xs : List Value} (h : W.ownsRow base e size v k xs) {j : Nat} {o : Obj} (hj : W.heap[j]? = some o) (hno : ∀ cur, o ≠ .cells cur e (0, 0)) :
    v.ownBlock = none ∨ v.ownBlock ≠ some j := by
  rcases h.2 with ⟨rfl, _⟩ | ⟨g, cap, cur, rfl, _, hgb, _⟩
  · exact .inl rfl
  · refine .inr fun e' => ?_
    have : g = j := by simpa [Value.ownBlock] using e'
    subst this; rw [hgb] at hj; cases hj; exact hno cur rfl
theorem cell_of_box {W : World} {B : Nat} {v : Value} {t : TypeId} (h : W.heap[B]? = some (.cells #[v] t (0, 0))) : W.cell? ⟨B, 0, none⟩ = some v ∧ W.frozen? ⟨B, 0, none⟩ = false := by
  constructor <;> simp [World.cell?, World.frozen?, h]
theorem heap_setCell_box {W : World} {B : Nat} {v : Value} {t : TypeId} (v' : Value) (h : W.heap[B]? = some (.cells #[v] t (0, 0))) : (W.setCell ⟨B, 0, none⟩ v').heap[B]? = some (.cells #[v'] t (0, 0)) := by
  obtain ⟨hlt, hk⟩ := Array.getElem?_eq_some_iff.1 h
  show (W.heap.modify B _)[B]? = _
  rw [Array.getElem?_eq_getElem (by rw [Array.size_modify]; exact hlt), Array.getElem_modify_self, hk]
  rfl
theorem ownsRow_not_walk {W : World} {base : Nat} {e : TypeId} {size : Nat} {v : Value} {k : Nat} {xs : List Value} (h : W.ownsRow base e size v k xs) : ∀ (j : Nat) (o : Obj), v.ownBlock = some j → W.heap[j]? = some o → o.isWalk = false := by
  intro j o hj ho
  rcases h.2 with ⟨rfl, _⟩ | ⟨g, cap, cur, rfl, _, hgb, _⟩
  · simp [Value.ownBlock] at hj
  · have : g = j := by simpa [Value.ownBlock] using hj
    subst this; rw [hgb] at ho; cases ho; rfl
theorem Sq.info55 : (Try.prog.info? 55).map (fun i => (i.zero, i.size, i.bytes)) = some (some (.int .u16 0), 1, 2) := by kernel_rfl
set_option maxRecDepth 100000 in
set_option maxHeartbeats 2000000 in
theorem Sq.apYield (F : Fence) (m : Nat) (w0 : World) (fn : FuncId) (hfn : F.fn fn) (sv : Value) (Bs l D : Nat) (hBl : Bs ≠ l) (hDl : D ≠ l) (hDB : D ≠ Bs) (h0B : w0.heap.size ≤ Bs) (h0l : w0.heap.size ≤ l)
    (N : Nat) (hN : N ≤ maxLen) (hNb : N * 2 ≤ 140737488355328) (ss : List Int) (x : Int) (W : World) (h : Sq.ApAt w0 fn sv Bs l D ss W) (hlen : ss.length < N) :
    YieldAt F m Try.prog l #[encU x] W fun e W' => e = .returned (.bool true) ∧ Sq.ApAt w0 fn sv Bs l D (ss ++ [x]) W' ∧ KeepsWalks W W' := by
  obtain ⟨i0, hi, hz0, hz1, hz2⟩ := info_parts Sq.info55
  obtain ⟨v, hv, hrow, _⟩ := h.box
  refine ⟨fn, #[.slice none 0 0, sv, .pointer (some ⟨Bs, 0, none⟩), undef, .slice none 0 0, undef, sv, encU x, undef, undef, undef, undef, undef], Sq.apAssign, Sq.apBody, by simpa [Sq.apRec] using run_yield (P := Try.prog) (args := #[encU x]) h.L rfl, roundIn_of_wpIn hfn ?_⟩
  have hl : l < W.heap.size := (Array.getElem?_eq_some_iff.1 h.L).1
  have hbr := run_beginRound (P := Try.prog) h.L rfl
  obtain ⟨W2, hW2⟩ : ∃ W2, W.putObj l (.loop { Sq.apRec fn sv Bs D .ready none with state := .busy }) = W2 := ⟨_, rfl⟩
  rw [hW2] at hbr
  have hg2 : W.grownBy W2 (some l) := by rw [← hW2]; exact Zcn _ _ _
  have hk2 : KeepsWalks W W2 := by rw [← hW2]; exact KeepsWalks.putObj _ h.L rfl
  have hv2 : W2.heap[Bs]? = some (.cells #[v] 37 (0, 0)) := by rw [← hW2]; exact (World.putObj_heap_other hBl).trans hv
  have hK2 : W2.heap[D]? = some (.deferred (some [])) := by rw [← hW2]; exact (World.putObj_heap_other hDl).trans h.K
  have hL2 : W2.heap[l]? = some (.loop { Sq.apRec fn sv Bs D .ready none with state := .busy }) := by rw [← hW2]; exact World.putObj_heap_same hl
  have hrow2 : W2.ownsRow w0.heap.size 55 1 v ss.length (ss.map encU) := hrow.kept hg2 (Zeg hrow h.L (fun cur e => by cases e))
  have hb2 : Below w0.heap.size w0 W2 := h.below.grown hg2 h.below.size (fun k e => by cases e; exact h0l)
  obtain ⟨hc2, hf2⟩ := cell_of_box hv2
  have hBlt : Bs < W2.heap.size := (Array.getElem?_eq_some_iff.1 hv2).1
  have hl2 : l < W2.heap.size := (Array.getElem?_eq_some_iff.1 hL2).1
  have hDlt : D < W2.heap.size := (Array.getElem?_eq_some_iff.1 hK2).1
  have ne_of : ∀ {j : Nat} {o : Obj}, W2.heap[j]? = some o → (∀ cur, o ≠ .cells cur 55 (0, 0)) → some j ≠ v.ownBlock := fun hj hno => by
    rcases Zeg hrow2 hj hno with e | e
    · rw [e]; simp
    · exact fun e' => e e'.symm
  clear hW2
  unfold Sq.apAssign
  gi_wp2_with (rw [Oper.semAt_eq _ _ _ (fun c h => by cases h)]; go_simp; try go_bits)
  unfold Sq.apBody
  gi_wp2_with (first
    | (gi_at_builtin; refine wpListIn_append_own _ rfl _ _ 37 rfl w0.heap.size 55 i0 (.int .u16 0) 1 2 Try.underlying37 hi hz0 hz1 hz2 rfl (by decide) _ _ _ rfl (hrow2.alloc _) ⟨W2.heap.size, 0, none⟩ 1 1 [encU x] rfl rfl (cell_one_new _ _ _) (by simp [Value.oneCell', encU]) (by omega) (by omega) (by have := hb2.size; simp; omega) ?_; intro v' w3 hown' hg3 hnil3
       have hv3 : w3.heap[Bs]? = some (.cells #[v] 37 (0, 0)) := (hg3.block Bs (by simp; omega) (ne_of hv2 (fun cur e => by cases e))).trans ((Below.heap_alloc _ _ Bs hBlt).trans hv2)
       obtain ⟨hc3, hf3⟩ := cell_of_box hv3
       obtain ⟨g', cap', cur', rfl, hbase', hgb', hr1, hr2, hr3, hr4⟩ : ∃ g' cap' cur', v' = .slice (some ⟨g', 0, none⟩) (ss.length + 1) cap' ∧ w0.heap.size ≤ g' ∧ w3.heap[g']? = some (.cells cur' 55 (0, 0)) ∧ ss.length + 1 ≤ cap' ∧ cap' ≤ maxLen ∧ cur'.size = cap' * 1 ∧ cur'.toList.take ((ss.length + 1) * 1) = ss.map encU ++ [encU x] := by
         rcases hown'.2 with ⟨_, h0⟩ | h'
         · exact absurd h0 (by omega)
         · exact h'
       go_frame)
    | (rw [Oper.semAt_eq _ _ _ (fun c h => by cases h)]; go_simp; try go_bits))
  have hg3' : (W2.alloc (.cells #[encU x] 55)).grownBy w3 v.ownBlock := hg3
  have hL3 : w3.heap[l]? = some (.loop { Sq.apRec fn sv Bs D .ready none with state := .busy }) := (hg3'.block l (by simp; omega) (ne_of hL2 (fun cur e => by cases e))).trans ((Below.heap_alloc _ _ l hl2).trans hL2)
  have hK3 : w3.heap[D]? = some (.deferred (some [])) := (hg3'.block D (by simp; omega) (ne_of hK2 (fun cur e => by cases e))).trans ((Below.heap_alloc _ _ D hDlt).trans hK2)
  obtain ⟨w4, hw4⟩ : ∃ w4, w3.setCell ⟨Bs, 0, none⟩ (.slice (some ⟨g', 0, none⟩) (ss.length + 1) cap') = w4 := ⟨_, rfl⟩
  rw [hw4]
  have hg4 : w3.grownBy w4 (some Bs) := by rw [← hw4]; exact grownBy_setCell0 _ _ _
  have hv4 : w4.heap[Bs]? = some (.cells #[.slice (some ⟨g', 0, none⟩) (ss.length + 1) cap'] 37 (0, 0)) := by rw [← hw4]; exact heap_setCell_box _ hv3
  have hL4 : w4.heap[l]? = some (.loop { Sq.apRec fn sv Bs D .ready none with state := .busy }) := (hg4.block l (Array.getElem?_eq_some_iff.1 hL3).1 (fun e => hBl (by cases e; rfl))).trans hL3
  have hK4 : w4.heap[D]? = some (.deferred (some [])) := (hg4.block D (Array.getElem?_eq_some_iff.1 hK3).1 (fun e => hDB (by cases e; rfl))).trans hK3
  have hrow4 := hown'.kept hg4 (Zeg hown' hv3 (fun cur e => by cases e))
  have hl4 : l < w4.heap.size := (Array.getElem?_eq_some_iff.1 hL4).1
  have hb3 : Below w0.heap.size w0 w3 := (hb2.alloc hb2.size _).grown hg3' (by have := hb2.size; simp; omega) (fun k e => (hrow2.lt k e).1)
  have hb4 : Below w0.heap.size w0 w4 := hb3.grown hg4 hb3.size (fun k e => by cases e; exact h0B)
  have hk4 : KeepsWalks W w4 := ((hk2.trans (KeepsWalks.alloc _ _)).trans (KeepsWalks.of_grownBy hg3' (ownsRow_not_walk (hrow2.alloc _)))).trans (by rw [← hw4]; exact KeepsWalks.setCell _ _ _)
  clear hw4
  refine ⟨_, _, run_endRound none hL4, rfl, ⟨⟨_, (World.putObj_heap_other hBl).trans hv4, ?_, by simp⟩, World.putObj_heap_same hl4, (World.putObj_heap_other hDl).trans hK4, hb4.grown (Zcn _ _ _) hb4.size (fun k e => by cases e; exact h0l)⟩, hk4.trans (KeepsWalks.putObj _ hL4 rfl)⟩
  have := hrow4.kept (Zcn w4 l (.loop { { Sq.apRec fn sv Bs D .ready none with state := .busy } with state := if (none : Option Code).isNone then .ready else .done, pending := none })) (Zeg hrow4 hL4 (fun cur e => by cases e))
  simpa using this
set_option maxRecDepth 100000 in
set_option maxHeartbeats 2000000 in
theorem Sq.appendSeq_in (F : Fence) (n : Nat) (h11 : F.fn 181) (hro : F.round = none) (hn : 2 ≤ n) (g : Nat) (lb : Array Value) (hFg : F.fn g) (eg : ∀ args w, (callFunc g args).run Try.prog w = .ok (.enter g args) w)
    (S : List Int → Prop) (N : Nat) (hN : N ≤ maxLen) (hNb : N * 2 ≤ 140737488355328) (w : World) (hseq : SeqU F (n - 1) g lb S N w) :
    CallsIn F n Try.prog 181 #[.slice none 0 0, .func (.func g) #[] lb] w fun e w' => ∃ (v : Value) (ss : List Int), e = .returned v ∧ S ss ∧ w'.ownsRow w.heap.size 55 1 v ss.length (ss.map encU) ∧ (v = .slice none 0 0 ↔ ss = []) ∧ Below w.heap.size w w' := by
  have h1 : 1 ≤ n := by omega
  refine callsIn_of_wp_marks Try.func181 rfl h11 ?_ hro
  simp only [Try.ntmps181, List.size_toArray, List.length_cons, List.length_nil, Nat.reduceAdd, Nat.reduceSub, Array.replicate_succ, Array.replicate_zero, List.push_toArray, List.append_toArray, List.nil_append, List.cons_append]
  gi_wp2
  refine wpIn_rangeFunc ?_
  intro fn hfn
  rw [hro]
  obtain ⟨W0, hW0⟩ : ∃ W0, w.alloc (.cells #[.slice none 0 0] 37) = W0 := ⟨_, rfl⟩
  have hs0 : W0.heap.size = w.heap.size + 1 := by rw [← hW0]; simp
  have hv0 : W0.heap[w.heap.size]? = some (.cells #[.slice none 0 0] 37 (0, 0)) := by rw [← hW0]; exact World.alloc_heap_new w _
  have hb0 : Below w.heap.size w W0 := by rw [← hW0]; exact (Below.refl _ w).alloc (Nat.le_refl _) _
  rw [hW0]
  obtain ⟨W1, hW1⟩ : ∃ W1, (W0.alloc (.deferred (some []))).alloc (.loop (Sq.apRec fn (.func (.func g) #[] lb) w.heap.size W0.heap.size .ready none)) = W1 := ⟨_, rfl⟩
  have hold : ∀ k, k < W0.heap.size → W1.heap[k]? = W0.heap[k]? := fun k hk => by
    rw [← hW1]; exact (Below.heap_alloc _ _ k (by simp; omega)).trans (Below.heap_alloc _ _ k hk)
  have hb1 : Below w.heap.size w W1 := by rw [← hW1]; exact (hb0.alloc hb0.size _).alloc (by have := hb0.size; simp; omega) _
  have hs1 : W1.heap.size = W0.heap.size + 2 := by rw [← hW1]; simp
  have hM : Sq.ApAt w fn (.func (.func g) #[] lb) w.heap.size (W0.heap.size + 1) W0.heap.size [] W1 :=
    ⟨⟨_, (hold w.heap.size (by omega)).trans hv0, ⟨rfl, .inl ⟨rfl, rfl⟩⟩, by simp⟩,
     by rw [← hW1]; have := World.alloc_heap_new (W0.alloc (.deferred (some []))) (.loop (Sq.apRec fn (.func (.func g) #[] lb) w.heap.size W0.heap.size .ready none)); rwa [World.size_alloc] at this,
     by rw [← hW1]; exact (Below.heap_alloc _ _ _ (by simp)).trans (World.alloc_heap_new W0 _), hb1⟩
  refine ⟨W0.heap.size + 1, [{ target := .collected W0.heap.size, args := #[] }], W1, { target := .fn (.func g) lb, args := #[.func (.yield (W0.heap.size + 1)) #[] #[]] }, W1, g,
    #[.func (.yield (W0.heap.size + 1)) #[] #[]] ++ lb, W1, ?_, ?_, ?_, ?_, fun _ => h1, ?_⟩
  · rw [← hW1]; exact run_enterLoop_outer _ _ _ _ _
  · simp [resolve, go_sem]
  · intro f' hf'; simp [Target.leads] at hf'; subst hf'; exact hFg
  · simp [invoke, go_sem, eg]
  · refine (hseq (W0.heap.size + 1) (Sq.ApAt w fn (.func (.func g) #[] lb) w.heap.size (W0.heap.size + 1) W0.heap.size) W1 hb1 (fun _ _ h => h.below)
      (fun pre x W hJ hl => Sq.apYield F (n - 1 - 1) w fn hfn _ w.heap.size (W0.heap.size + 1) W0.heap.size (by omega) (by omega) (by omega) (Nat.le_refl _) (by omega) N hN hNb pre x W hJ hl) hM).mono ?_
    rintro e W2 ⟨⟨v0, rfl⟩, ss, hS, h2⟩
    obtain ⟨v, hv, hrow, hnil⟩ := h2.box
    have hend := run_endLoop (P := Try.prog) h2.L (by simp [Sq.apRec])
    obtain ⟨W3, hW3⟩ : ∃ W3, W2.putObj (W0.heap.size + 1) (.loop { Sq.apRec fn (.func (.func g) #[] lb) w.heap.size W0.heap.size .ready none with state := .exhausted }) = W3 := ⟨_, rfl⟩
    rw [hW3] at hend
    have hg3 : W2.grownBy W3 (some (W0.heap.size + 1)) := by rw [← hW3]; exact Zcn _ _ _
    have hv3 : W3.heap[w.heap.size]? = some (.cells #[v] 37 (0, 0)) := by rw [← hW3]; exact (World.putObj_heap_other (by omega)).trans hv
    have hK3 : W3.heap[W0.heap.size]? = some (.deferred (some [])) := by rw [← hW3]; exact (World.putObj_heap_other (by omega)).trans h2.K
    have hrow3 := hrow.kept hg3 (Zeg hrow h2.L (fun cur e => by cases e))
    have hb3 : Below w.heap.size w W3 := h2.below.grown hg3 h2.below.size (fun k e => by cases e; omega)
    obtain ⟨hc3, hf3⟩ := cell_of_box hv3
    clear hW3
    refine ⟨none, W3, hend, ?_⟩
    gi_wp2
    rw [← hs0]
    refine ⟨by simp, .inl ⟨_, _, rfl, run_takeDeferred hK3, ?_⟩⟩
    exact ⟨_, results_tmp rfl _ _ _, v, ss, rfl, hS, hrow3.kept (Zcn _ _ _) (Zeg hrow3 hK3 (fun cur e => by cases e)), hnil, hb3.grown (Zcn _ _ _) hb3.size (fun k e => by cases e; omega)⟩
end Go.Proofs.Ytmanpbgaihdalaa
namespace Go.Proofs.Ytmanpbgaihdalaa
open Go Dv Go.RowKit Go.Maps Go.Sort Go.Shelf
attribute [local go_sem] Oper.semAt_some
set_option maxRecDepth 100000 in
set_option maxHeartbeats 2000000 in
theorem Sq.values1_in (F : Fence) (n : Nat) (h7 : F.fn 177) (hro : F.round = none) (hn : 1 ≤ n) (Bs bo b off cap : Nat) (zs : List Int) (hreach : zs.length * 2 ≤ 140737488351232) (w : World) (hBs0 : Bs < w.heap.size) (hb : b < w.heap.size)
    (hBs : w.cell? ⟨Bs, bo, none⟩ = some (.slice (some ⟨b, off, none⟩) zs.length cap)) (hc : ∀ j, j < zs.length → w.cell? ⟨b, off + j, none⟩ = some (.int .u16 (zs[j]?.getD 0))) :
    SeqU F n 177 #[.pointer (some ⟨Bs, bo, none⟩)] (fun ss => ss = zs) zs.length w := by
  intro l J W hW hJB hY h0
  have hBsW := (hW.cell (p := ⟨Bs, bo, none⟩) hBs0).trans hBs
  have hcW : ∀ W', RowKit.Below w.heap.size w W' → ∀ k, k < zs.length → W'.cell? ⟨b, off + k, none⟩ = some (.int .u16 (zs[k]?.getD 0)) := fun W' h k hk => (h.cell (p := ⟨b, off + k, none⟩) hb).trans (hc k hk)
  refine callsIn_of_wp Try.func177 rfl h7 ?_ hro
  simp only [Try.ntmps177, List.size_toArray, List.length_cons, List.length_nil, Nat.reduceAdd, Nat.reduceSub, Array.replicate_succ, Array.replicate_zero, List.push_toArray, List.append_toArray, List.nil_append, List.cons_append]
  gi_wp2
  gi_loopw [7] (fun i wr => ∃ k : Nat, k ≤ zs.length ∧ i = .int .i64 k ∧ J (zs.take k) wr)
    (fun i _ => zs.length - (intOf i).toNat)
  case atStart => exact ⟨0, Nat.zero_le _, rfl, by simpa using h0⟩
  case round =>
    obtain ⟨k, hk, rfl, hJs⟩ := hrel
    by_cases hlt : k < zs.length
    · have hcx' := hcW wr (hJB _ _ hJs) k hlt
      have hJx : ∀ W', J (zs.take k ++ [zs[k]?.getD 0]) W' → J (zs.take (k + 1)) W' := fun W' h => by rw [List.take_add_one]; simpa [List.getElem?_eq_getElem hlt] using h
      generalize zs[k]?.getD 0 = x at hcx' hJx
      obtain ⟨fn, tmps, assign, body, hy, hR⟩ := hY _ x wr hJs (by rw [List.length_take]; omega)
      unfold encU at hy
      gi_wp2
      refine hR.mono ?_
      rintro e W3 ⟨rfl, hJ3, _⟩
      gi_wp2
      go_roundw
      case rel => exact ⟨k + 1, by omega, by simp, hJx _ hJ3⟩
      case measure => simp [intOf]; omega
    · obtain rfl : k = zs.length := by omega
      gi_wp2
      go_end0
      exact ⟨⟨_, rfl⟩, _, rfl, by simpa using hJs⟩
set_option maxRecDepth 100000 in
set_option maxHeartbeats 1000000 in
theorem Sq.values1_nil (F : Fence) (n : Nat) (h7 : F.fn 177) (hro : F.round = none) (Bs bo cap : Nat) (p : Option Addr) (w : World) (hBs0 : Bs < w.heap.size)
    (hBs : w.cell? ⟨Bs, bo, none⟩ = some (.slice p 0 cap)) :
    SeqU F n 177 #[.pointer (some ⟨Bs, bo, none⟩)] (fun ss => ss = []) 0 w := by
  intro l J W hW hJB hY h0
  have hBsW := (hW.cell (p := ⟨Bs, bo, none⟩) hBs0).trans hBs
  refine callsIn_of_wp Try.func177 rfl h7 ?_ hro
  simp only [Try.ntmps177, List.size_toArray, List.length_cons, List.length_nil, Nat.reduceAdd, Nat.reduceSub, Array.replicate_succ, Array.replicate_zero, List.push_toArray, List.append_toArray, List.nil_append, List.cons_append]
  gi_wp2
  gi_loopw [7] (fun i wr => i = .int .i64 0 ∧ J [] wr) (fun _ _ => 0)
  case atStart => exact ⟨rfl, h0⟩
  case round =>
    obtain ⟨rfl, hJs⟩ := hrel
    gi_wp2
    go_end0
    exact ⟨⟨_, rfl⟩, _, rfl, hJs⟩
end Go.Proofs.Ytmanpbgaihdalaa
namespace Go.Proofs.Ytmanpbgaihdalaa
open Go Dv Go.RowKit Go.Maps Go.Sort Go.Shelf
set_option linter.unusedSimpArgs false
theorem fr_below {w w' : World} (h : RowKit.Below w.heap.size w w') : Fr (fun _ => False) w w' :=
  ⟨h.os, h.tape, h.output, h.size, fun b hb _ => h.block b hb, fun a ha => by simp only [World.frozen?, h.block a.block ha]⟩
theorem c_AppendSeq (l : List Int) (hl : l.length ≤ maxL) : FO Try.prog 181 [.nsl, .fn 177 [.ip [u16s l]]] 1 l.length (fun i => [.int .u16 (l.getD i 0)]) := by
  refine ⟨⟨_, Try.func181, rfl, by decide +kernel⟩, fun X w vals hX hv => ?_⟩
  simp only [Vs, V, Vc, u16s] at hv
  obtain ⟨_, _, rfl, rfl, _, _, rfl, ⟨a, rfl, _, _, rfl, ⟨Bs, bo, rfl, hBs, hnX, ⟨v, hcell, _, p, c, rfl, hnc, _, hrow⟩, _⟩, rfl⟩, rfl⟩ := hv
  have hu : ∀ i, i < l.length → IntKind.u16.min ≤ l.getD i 0 ∧ l.getD i 0 ≤ IntKind.u16.max := fun i hi => by
    rcases hrow with h0 | ⟨b, o, _, _, _, hc⟩
    · omega
    · exact (hc i hi).2.1.choose_spec.2.2.2
  have key : ∃ N, SeqU Fence.wide 1 177 #[.pointer (some ⟨Bs, bo, none⟩)] (fun ss => ss = l) N w ∧ N ≤ maxLen ∧ N * 2 ≤ 140737488355328 := by
    rcases hrow with h0 | ⟨b, o, rfl, hb, _, hc⟩
    · have : l = [] := List.length_eq_zero_iff.1 h0
      subst this
      exact ⟨0, Sq.values1_nil Fence.wide 1 trivial rfl Bs bo c p w hBs hcell, by decide, by decide⟩
    · refine ⟨l.length, Sq.values1_in Fence.wide 1 trivial rfl (by omega) Bs bo b o c l (by simp only [maxL] at hl; omega) w hBs hb hcell (fun j hj => ?_), by simp only [maxL] at hl; simp only [maxLen]; omega, by simp only [maxL] at hl; omega⟩
      obtain ⟨_, ⟨v, h1, _, h2, _⟩, _⟩ := hc j hj
      rw [Nat.mul_one] at h1
      rw [h1, h2]; simp
  obtain ⟨N, hseq, hN, hN2⟩ := key
  refine (callsIn_wide.1 (Sq.appendSeq_in Fence.wide 2 trivial rfl (by omega) 177 #[.pointer (some ⟨Bs, bo, none⟩)] trivial (fun args w => run_callFunc ⟨_, Try.func177, rfl, by decide +kernel⟩ args w) (fun ss => ss = l) N hN hN2 w hseq)).mono ?_
  rintro e w' ⟨v, ss, rfl, rfl, hown, hnil, hb⟩
  refine ⟨v, rfl, fr_below hb, hl, ?_⟩
  rcases hown.2 with ⟨h1, h2⟩ | ⟨g, cap, cur, h1, h2, h3, h4, h5, h6, h7⟩
  · exact .inl ⟨h1, h2⟩
  · refine .inr ⟨_, g, cap, h1, h2, .inr rfl, cur, 55, h3, h4, h6, fun i hi => ⟨rfl, ?_⟩⟩
    simp only [Vc, V]
    have hg : cur[i]? = some (.int .u16 (ss.getD i 0)) := by
      have := congrArg (fun l => l[i]?) h7
      simp only [Nat.mul_one, List.getElem?_take, hi, if_true, List.getElem?_map] at this
      rw [← Array.getElem?_toList, this, List.getElem?_eq_getElem hi, List.getD_eq_getElem?_getD, List.getElem?_eq_getElem hi]; rfl
    refine ⟨⟨_, ?_, rfl, rfl, ?_⟩, trivial⟩
    · simp [World.cell?, h3, hg]
    · exact hu i hi
theorem Rel.bp {h : Zan} {id : Dv.Id} {imm : Bool} {sz k : Nat} {f : Nat → List AV} {g : List AV} (hh : h id = some (.row imm sz k f)) (hk : 0 < k) (hm : Rels h (f 0) g) : Rel h (.bp id 0) (.ip g) := fun X ι w v s hv => by
  simp only [V] at hv ⊢
  cases hl : ι id with
  | none => simp [hl] at hv
  | some l =>
    cases l with
    | ghost => simp [hl] at hv
    | nil => simp [hl] at hv
    | «at» b c =>
      simp only [hl] at hv
      obtain ⟨arr, TT, hc, h4, h5, h6⟩ := s.rel id _ _ hh hl
      refine ⟨b, 0, hv, s.lt hl, s.apart id b c hl, ?_⟩
      obtain ⟨h7, h8⟩ := h6 0 hk
      have h9 := Zck imm _ _ _ h8
      rw [Nat.zero_mul] at h9
      obtain ⟨vs, hvl, hvc, hvV, hv1⟩ := Vc_read h9
      exact Vc_of_Vs (hm X ι w vs s hvV) hvc hv1
theorem c_Values (l : List Int) : FC Try.prog 166 [u16s l] (.fn 177 [.ip [u16s l]]) := by
  refine Za5 tok Try.func166 rfl (by decide +kernel) (Nat.le_of_ble_eq_true rfl) ?_
  (repeat' first | refine Zad ?_ | (refine Zac tok (by rfl) ?_; conv => whnf) | (refine Zak ?_; conv => whnf))
  exact ⟨_, rfl, Rel.fn (Rels.cons (Rel.bp rfl Nat.zero_lt_one (Rels.imm rfl)) Rels.nil)⟩
theorem c_Collect (l : List Int) (hl : l.length ≤ maxL) : FO Try.prog 175 [.fn 177 [.ip [u16s l]]] 1 l.length (fun i => [.int .u16 (l.getD i 0)]) := by
  refine Zdo tok Try.func175 rfl (by decide +kernel) (Nat.le_of_ble_eq_true rfl) ?_
  (repeat' first | refine Zad ?_ | (refine Zac tok (by rfl) ?_; conv => whnf))
  refine .inl ⟨_, _, _, uG (QC.fo (rd := []) (c_AppendSeq l hl) (Ress.imms rfl) (.inl rfl) rfl), ?_⟩
  conv => whnf
  (repeat' (refine Zak ?_; conv => whnf))
  exact ⟨_, rfl, .rs rfl (Nat.le_refl _) rfl (fun _ _ => rfl)⟩
theorem c_Sorted (l : List Int) (hl : l.length ≤ maxL) : FO Try.prog 165 [.fn 177 [.ip [u16s l]]] 1 l.length (fun i => [.int .u16 ((Zdq l).getD i 0)]) := by
  refine Zdo tok Try.func165 rfl (by decide +kernel) (Nat.le_of_ble_eq_true rfl) ?_
  (repeat' first | refine Zad ?_ | (refine Zac tok (by rfl) ?_; conv => whnf))
  refine .inl ⟨_, _, _, uG (QC.fo (rd := []) (c_Collect l hl) (Ress.imms rfl) (.inl rfl) rfl), ?_⟩
  conv => whnf
  (repeat' first | refine Zad ?_ | (refine Zac tok (by rfl) ?_; conv => whnf))
  have hS := c_Sort l.length l.toArray (by simp)
  refine .inr ⟨_, _, _, uG (QH.of (dead := []) [(i0, .old (5, 0, 0), arow l.length l.toArray)] hS rfl (.old rfl (BLe.row rfl (fun x h2 => ?_)) .nil) (.cons (.eq rfl) .nil) [(i0, (5, 0, 0))] rfl (.cons (b' := .row true 1 l.length (fun i => [.int .u16 ((Zdq l).getD i 0)])) rfl (BLe.row rfl (fun x h2 => ?_)) .nil) rfl), ?_⟩
  · show [AV.int .u16 (l.getD x 0)] = [.int .u16 l.toArray[x]!]
    rw [bang_list]
  · show [AV.int .u16 (Go.Sort.sort ltInt l.toArray)[x]!] = [.int .u16 ((Zdq l).getD x 0)]
    rw [← bang_list]; simp [Zdq]
  conv => whnf
  (repeat' first | refine Zad ?_ | (refine Zac tok (by rfl) ?_; conv => whnf) | (refine Zak ?_; conv => whnf))
  exact ⟨_, rfl, .rs rfl (Nat.le_refl _) rfl (fun _ _ => rfl)⟩
end Go.Proofs.Ytmanpbgaihdalaa
namespace Go.Proofs.Ytmanpbgaihdalaa
open Go Dv
set_option maxRecDepth 10000
set_option linter.unusedSimpArgs false
theorem sorted_perm (l : List Int) : (Zdq l).Perm l := by rw [sorted_eq]; exact List.mergeSort_perm l _
theorem sorted_asc (l : List Int) : ∀ i j, i < j → j < (Zdq l).length → (Zdq l).getD i 0 ≤ (Zdq l).getD j 0 := by
  have h : (Zdq l).Pairwise (fun x y => decide (x ≤ y) = true) := by
    rw [sorted_eq]
    exact List.pairwise_mergeSort (fun a b c h1 h2 => by simp at *; omega) (fun a b => by simp; omega) l
  intro i j hij hj
  rw [List.pairwise_iff_getElem] at h
  have := h i j (by omega) hj hij
  rw [Zbm _ (by omega), Zbm _ hj]; simpa using this
theorem runs_sorted (l : List Int) : runs (Zdq l).toArray l.length = l.length ↔ l.Nodup := by
  have h := runs_all (sorted_asc l) l.length (by rw [sorted_len]; omega)
  rw [h, ← (sorted_perm l).nodup_iff]
  constructor
  · intro hh; exact nodup_getD (fun i hi k hk => hh i (by rw [sorted_len] at hi; exact hi) k hk)
  · intro hn x hx y hy he
    exact not_nodup (by rw [sorted_len]; exact hx) hy he hn
theorem c_lpad : LPad := by
  intro m f b
  refine Za5 tok Try.func156 rfl (by decide +kernel) (Nat.le_of_ble_eq_true rfl) ?_
  refine Zau 1 (fun hl => ?_)
  have hl0 : b.pad.catch_.length ≤ maxL := hl.2.2.1.1
  (repeat' first | refine Zad ?_ | (refine Zac tok (by rfl) ?_; conv => whnf) | (refine Zai ?_; conv => whnf) | refine Zah rfl (fun hb => ?_) (fun hb => ?_))
  · refine .inl ⟨_, _, _, uG (QC.sc (rd := []) (c_samePad b.pad ⟨0, [], false, false⟩) (.cons (.imm rfl) (.cons (.agg (.cons (.imm rfl) (.cons .nsl (.cons (.imm rfl) (.cons (.imm rfl) .nil))))) .nil)) rfl), ?_⟩
    conv => whnf
    (repeat' (refine Zak ?_; conv => whnf))
    refine ⟨_, rfl, Rel.bool ?_⟩
    rw [decide_eq_decide]
    obtain ⟨land, ⟨d, c, al, cl⟩, _, _⟩ := b
    simp at hb
    simp [PadP, hb, and_assoc]
  refine .inl ⟨_, _, _, uG (QC.fc (c_Values b.pad.catch_) rfl), ?_⟩
  conv => whnf
  skip
  refine .inl ⟨_, _, _, uG (QC.fo (rd := []) (c_Sorted b.pad.catch_ hl0) (Ress.imms rfl) (.inl rfl) rfl), ?_⟩
  conv => whnf
  (repeat' first | refine Zad ?_ | (refine Zbb tok mix (by rfl) ?_; conv => whnf))
  refine .inl ⟨_, _, _, uG (QC.fc (c_place m f b.pad.dst) rfl), ?_⟩
  conv => whnf
  skip
  have hC := c_Compact b.pad.catch_.length (Zdq b.pad.catch_).toArray (by simp [sorted_len])
  refine .inl ⟨_, _, _, uG (QC.turn (i := (18, 0, 0)) (rd := [(18, 0, 0)]) (b := .row true 1 0 (fun _ => [])) (List.mem_singleton.2 rfl) (fun h' hh => QH.of (dead := []) [(i0, .old (18, 0, 0), arow b.pad.catch_.length (Zdq b.pad.catch_).toArray)] hC rfl (.old (hh _ (List.mem_singleton.2 rfl)) (BLe.row rfl (fun x h2 => ?_)) .nil) (.cons (.eq rfl) .nil) [(i0, (18, 0, 0))] rfl (.cons (b' := .row true 1 0 (fun _ => [])) rfl (BLe.rowW (Nat.zero_le _) (fun x h2 => absurd h2 (Nat.not_lt_zero x))) .nil) rfl)), ?_⟩
  · show [AV.int .u16 ((Zdq b.pad.catch_).getD x 0)] = [.int .u16 (Zdq b.pad.catch_).toArray[x]!]
    rw [bang_list]
  conv => whnf
  (repeat' (refine Zak ?_; conv => whnf))
  refine ⟨_, rfl, Rel.bool ?_⟩
  have h1 := runs_sorted b.pad.catch_
  generalize runs (Zdq b.pad.catch_).toArray b.pad.catch_.length = rr at h1 ⊢
  have hland : b.landing = true := by simpa using hb
  rw [Bool.eq_iff_iff]
  have e1 : ((rr : Int) = (b.pad.catch_.length : Int)) ↔ b.pad.catch_.Nodup := by rw [← h1]; omega
  have e2 : ((b.pad.catch_.length : Int) ≤ 8) ↔ b.pad.catch_.length ≤ 8 := by omega
  have e3 : (0 : Int) < (b.pad.catch_.length : Int) ↔ b.pad.catch_ ≠ [] := by
    rw [← List.length_pos_iff]; omega
  simp only [cond_eq_ite, Bool.if_false_right, Bool.if_true_left, Bool.and_eq_true, Bool.or_eq_true, decide_eq_true_eq, e1, e2, e3, PadP, hland, Bool.decide_eq_true]
  simp
  constructor
  · rintro ⟨⟨⟨h2, h3⟩, h4⟩, h5⟩
    refine ⟨h3, h4, h2, ?_⟩
    rcases h5 with (h5 | h5) | h5 <;> simp [h5]
  · rintro ⟨h3, h4, h2, h5⟩
    refine ⟨⟨⟨h2, h3⟩, h4⟩, ?_⟩
    rcases h5 with h5 | h5 | h5 <;> simp [h5]
end Go.Proofs.Ytmanpbgaihdalaa
namespace Go.Proofs.Ytmanpbgaihdalaa
open Go Dv
def leL (a b : List Bool) : Prop := ∀ i, a.getD i false = true → b.getD i false = true
theorem leL.refl (a : List Bool) : leL a a := fun _ h => h
theorem leL.trans {a b c : List Bool} (h : leL a b) (k : leL b c) : leL a c := fun i e => k i (h i e)
def cnt (a : List Bool) : Nat := a.count true
theorem cnt_le {a : List Bool} : cnt a ≤ a.length := List.count_le_length
theorem cnt_mono : ∀ {a b : List Bool}, a.length = b.length → leL a b → cnt a ≤ cnt b ∧ (cnt b ≤ cnt a → a = b)
  | [], [], _, _ => ⟨Nat.le_refl _, fun _ => rfl⟩
  | x :: a, y :: b, hl, h => by
      have hl' : a.length = b.length := by simpa using hl
      have h' : leL a b := fun i e => by have := h (i + 1) (by simpa using e); simpa using this
      have h0 : x = true → y = true := fun e => by have := h 0 (by simpa using e); simpa using this
      obtain ⟨h1, h2⟩ := cnt_mono hl' h'
      unfold cnt at h1 h2 ⊢
      cases x <;> cases y
      · refine ⟨by simpa using h1, fun k => ?_⟩
        rw [h2 (by simpa using k)]
      · refine ⟨by simp; omega, fun k => ?_⟩
        simp at k; omega
      · exact absurd (h0 rfl) (by simp)
      · refine ⟨by simpa using h1, fun k => ?_⟩
        rw [h2 (by simpa using k)]
theorem set_get {a : List Bool} {n i : Nat} (hn : n < a.length) : (a.set n true).getD i false = (decide (n = i) || a.getD i false) := by
  rw [getD_set]
  by_cases h : n = i
  · subst h; simp [hn]
  · simp [h]
theorem leL_set (a : List Bool) (n : Nat) : leL a (a.set n true) := fun i h => by
  by_cases hn : n < a.length
  · rw [set_get hn, h]; simp
  · rw [List.set_eq_of_length_le (by omega)]; exact h
section
variable (len : Nat) (D : Nat → List Bool → Bool)
def MonoD : Prop := ∀ n a b, leL a b → D n a = true → D n b = true
structure Closed (a : List Bool) : Prop where
  sz : a.length = len
  cl : ∀ n, n < len → D n a = true → a.getD n false = true
def Zfu (a : List Bool) : Prop := ∀ c, Closed len D c → leL a c
def nxt (a : List Bool) : List Bool := (List.range len).map fun n => a.getD n false || D n a
def iterN : Nat → List Bool → List Bool
  | 0, a => a
  | k + 1, a => iterN k (nxt len D a)
def lfp : List Bool := iterN len D (len + 1) (List.replicate len false)
variable {len D}
theorem nxt_len (a : List Bool) : (nxt len D a).length = len := by simp [nxt]
theorem nxt_get (a : List Bool) {i : Nat} (hi : i < len) : (nxt len D a).getD i false = (a.getD i false || D i a) := by simp [nxt, List.getD_eq_getElem?_getD, hi]
theorem getD_ge {a : List Bool} {i : Nat} (h : a.length ≤ i) : a.getD i false = false := by simp [List.getD_eq_getElem?_getD, h]
theorem nxt_le {a : List Bool} (hl : a.length = len) : leL a (nxt len D a) := fun i h => by
  by_cases hi : i < len
  · rw [nxt_get a hi, h]; rfl
  · rw [getD_ge (by omega)] at h; cases h
theorem nxt_beneath (hD : MonoD D) {a : List Bool} (h : Zfu len D a) : Zfu len D (nxt len D a) := fun c hc i e => by
  by_cases hi : i < len
  · rw [nxt_get a hi, Bool.or_eq_true] at e
    rcases e with e | e
    · exact h c hc i e
    · exact hc.cl i hi (hD i a c (h c hc) e)
  · rw [getD_ge (by rw [nxt_len]; omega)] at e; cases e
theorem nxt_same {a : List Bool} (hl : a.length = len) (h : cnt (nxt len D a) ≤ cnt a) : Closed len D a := by
  have e := (cnt_mono (by rw [hl, nxt_len]) (nxt_le hl)).2 h
  refine ⟨hl, fun n hn hd => ?_⟩
  rw [e, nxt_get a hn, hd]; simp
theorem nxt_closed {a : List Bool} (h : Closed len D a) : nxt len D a = a := by
  refine Zbl false (by rw [nxt_len, h.sz]) (fun i hi => ?_)
  rw [nxt_len] at hi
  rw [nxt_get a hi]
  cases e : D i a with
  | false => simp
  | true => rw [h.cl i hi e]; rfl
theorem iterN_ok (hD : MonoD D) : ∀ (k : Nat) (a : List Bool), a.length = len → Zfu len D a → (iterN len D k a).length = len ∧ Zfu len D (iterN len D k a) ∧ (Closed len D (iterN len D k a) ∨ k + cnt a ≤ cnt (iterN len D k a))
  | 0, a, hl, hb => ⟨hl, hb, .inr (by simp [iterN])⟩
  | k + 1, a, hl, hb => by
      have ih := iterN_ok hD k (nxt len D a) (nxt_len a) (nxt_beneath hD hb)
      simp only [iterN]
      refine ⟨ih.1, ih.2.1, ?_⟩
      by_cases hc : cnt (nxt len D a) ≤ cnt a
      · have h0 := nxt_same hl hc
        left
        have : ∀ k, iterN len D k a = a := fun k => by
          induction k with
          | zero => rfl
          | succ k ih => rw [iterN, nxt_closed h0, ih]
        rw [nxt_closed h0, this k]; exact h0
      · rcases ih.2.2 with h | h
        · exact .inl h
        · right; omega
theorem lfp_ok (hD : MonoD D) : Closed len D (lfp len D) ∧ Zfu len D (lfp len D) := by
  have h0 : Zfu len D (List.replicate len false) := fun c _ i e => by
    exfalso; simp only [List.getD_eq_getElem?_getD, List.getElem?_replicate] at e; split at e <;> simp at e
  have := iterN_ok hD (len + 1) (List.replicate len false) (by simp) h0
  refine ⟨?_, this.2.1⟩
  rcases this.2.2 with h | h
  · exact h
  · have h2 : cnt (iterN len D (len + 1) (List.replicate len false)) ≤ (iterN len D (len + 1) (List.replicate len false)).length := cnt_le
    rw [this.1] at h2; omega
theorem lfp_uniq (hD : MonoD D) {a : List Bool} (h1 : Closed len D a) (h2 : Zfu len D a) : a = lfp len D := by
  obtain ⟨h3, h4⟩ := lfp_ok hD (len := len)
  refine Zbl false (by rw [h1.sz, h3.sz]) (fun i _ => ?_)
  have e1 := h2 _ h3 i
  have e2 := h4 _ h1 i
  cases hx : a.getD i false <;> cases hy : (lfp len D).getD i false
  · rfl
  · rw [e2 hy] at hx; cases hx
  · rw [e1 hx] at hy; cases hy
  · rfl
end
end Go.Proofs.Ytmanpbgaihdalaa
namespace Go.Proofs.Ytmanpbgaihdalaa
open Go Dv
set_option maxRecDepth 10000
set_option linter.unusedSimpArgs false
structure OkB (nf nb : Nat) (b : Zbd) : Prop where
  fn : b.fin.kind = 4 → 0 ≤ b.fin.f ∧ b.fin.f < nf
  pad : b.fin.kind = 4 → 0 ≤ b.fin.pad ∧ b.fin.pad < nb
  ins : ∀ i, i < b.ins.length → (b.ins.getD i default).op = 11 → 0 ≤ (b.ins.getD i default).f ∧ (b.ins.getD i default).f < nf
theorem all_at {α : Type} (d : α) {p : α → Bool} {l : List α} (h : l.all p = true) {i : Nat} (hi : i < l.length) : p (l.getD i d) = true := by
  rw [List.all_eq_true] at h; rw [Zbm d hi]; exact h _ (List.getElem_mem hi)
theorem args_in {m : Zay} {f : Func} {n : Int} {l : List Int} (h : argsB m f n l = true) : 0 ≤ n ∧ n < m.funcs.length := by
  unfold argsB at h
  cases h1 : inn n m.funcs.length with
  | true => exact (Zab _ _).1 h1
  | false => rw [h1] at h; simp at h
theorem Zfk {m : Zay} (h : Zdf m = true) {n : Nat} (hn : n < m.funcs.length) : funcB m (m.funcs.getD n default) = true := by
  unfold Zdf at h; rw [Bool.and_eq_true] at h
  exact all_at default h.2 hn
theorem func_blocks {m : Zay} {f : Func} (h : funcB m f = true) {i : Nat} (hi : i < f.blocks.length) : blkB m f (f.blocks.getD i default) = true := by
  unfold funcB at h; rw [Bool.and_eq_true] at h
  exact all_at default h.2 hi
theorem blk_ok {m : Zay} {f : Func} {b : Zbd} (h : blkB m f b = true) : OkB m.funcs.length f.blocks.length b := by
  unfold blkB at h; rw [Bool.and_eq_true, decide_eq_true_eq] at h
  obtain ⟨⟨_, _, he⟩, hi⟩ := h
  have k4 : b.fin.kind = 4 → argsB m f b.fin.f b.fin.args = true ∧ inn b.fin.pad f.blocks.length = true := fun k => by
    rcases he with h | h | h | h | h
    · omega
    · omega
    · omega
    · exact ⟨h.2.2.2.1, h.2.2.2.2.2.2.1⟩
    · omega
  refine ⟨fun k => args_in (k4 k).1, fun k => (Zab _ _).1 (k4 k).2, fun i hi' k => ?_⟩
  have := all_at default hi hi'
  rw [decide_eq_true_eq] at this
  rcases this with h | h | h | h | h | h | h
  · omega
  · omega
  · omega
  · omega
  · exact args_in h.2.2.2.2.2
  · omega
  · omega
end Go.Proofs.Ytmanpbgaihdalaa
namespace Go.Proofs.Ytmanpbgaihdalaa
open Go Dv
set_option maxRecDepth 10000
set_option linter.unusedSimpArgs false
theorem app_fnW {sz n x : Nat} {f g : Nat → List AV} {c : List AV} (hf : ∀ i, i < n → f i = g i) (hc : c = g n) (hl : c.length = sz) (hx : x < n + 1) : appR n f (fun i => rowOf sz c (0 + i)) x = g x := by
  by_cases e : x < n
  · have h1 : appR n f (fun i => rowOf sz c (0 + i)) x = f x := by
      unfold appR; rw [show Nat.blt x n = true from by rw [Nat.blt_eq]; exact e]; rfl
    rw [h1, hf x e]
  · have e2 : x = n := by omega
    subst e2
    subst hl
    have h1 : appR x f (fun i => rowOf c.length c (0 + i)) x = c := by
      unfold appR; rw [show Nat.blt x x = false from by rw [Bool.eq_false_iff]; intro h; rw [Nat.blt_eq] at h; omega, Nat.sub_self]
      exact rowOf_one _
    rw [h1, hc]
abbrev j0 : Dv.Id := (1, 7, 0)
end Go.Proofs.Ytmanpbgaihdalaa
namespace Go.Proofs.Ytmanpbgaihdalaa
open Go Dv
set_option maxRecDepth 10000
set_option linter.unusedSimpArgs false
def numB (s : List Bool) (n : Nat) : Nat := (s.take n).count true
def Zb5 (s : List Bool) : List Int := (List.range s.length).map fun i => if s.getD i false = true then (numB s i : Int) else -1
theorem anewL_len (s : List Bool) : (Zb5 s).length = s.length := by simp [Zb5]
theorem anewL_at {s : List Bool} {i : Nat} (h : i < s.length) : (Zb5 s).getD i 0 = if s.getD i false = true then (numB s i : Int) else -1 := by
  unfold Zb5; rw [List.getD_eq_getElem?_getD, List.getElem?_map, List.getElem?_range h]; rfl
theorem numB_succ {s : List Bool} {i : Nat} (h : i < s.length) : numB s (i + 1) = numB s i + (if s.getD i false = true then 1 else 0) := by
  unfold numB
  rw [Zcm false h, List.count_append]
  cases s.getD i false <;> simp
theorem numB_le (s : List Bool) (i : Nat) : numB s i ≤ s.length := by
  unfold numB
  have h1 := List.count_le_length (a := true) (l := s.take i)
  have h2 := List.length_take_le i s
  have h3 := List.length_take_le' i s
  omega
theorem c_anew (s : List Bool) : FC Try.prog 94 [bools s] (ints (Zb5 s)) := by
  refine Za5 tok Try.func94 rfl (by decide +kernel) (Nat.le_of_ble_eq_true rfl) ?_
  refine Zau 0 (fun hl => ?_)
  have hmx : maxL = 4294967296 := rfl
  have hl0 : s.length ≤ maxL := hl.1
  clear hl
  (repeat' first | refine Zad ?_ | (refine Zac tok (by rfl) ?_; conv => whnf) | refine Zaf ?_)
  refine Zas (fun k : Nat => mkS [(3, .rs (30, 0, 0) 1 0 k), (4, iv (numB s k)), (7, bools s), (8, iv s.length), (9, iv k)] [((30, 0, 0), .row true 1 k (fun q => [iv ((Zb5 s).getD q 0)]))]) (fun k => k ≤ s.length) (fun k => s.length - k) 0 (Nat.zero_le _) ?_ ?_
  · refine Weak.list [((30, 0, 0), .nil, .row true 1 0 (fun q => [iv ((Zb5 s).getD q 0)]))] rfl (by rfl) ?_ (.new .nil)
    ((repeat' first | exact TLes.nil | refine TLes.cons (TLe.eq rfl) ?_ | refine TLes.cons (TLe.nilL rfl ?_) ?_); (all_goals first | rfl | skip))
  intro k hk
  have hnb := numB_le s k
  (repeat' ((fail_if_success (show AWp _ _ _ (Code.region 5 _ _) _ _)); first | refine Zad ?_ | (refine Zac tok (by rfl) ?_; conv => whnf) | refine Zaf ?_ | (refine Zai ?_; conv => whnf) | (refine Zar ?_; conv => whnf) | (refine Zak ?_; conv => whnf) | refine Zah rfl (fun hb => ?_) (fun hb => ?_)))
  · have hkl : k < s.length := by simp only [decide_eq_true_eq] at hb; omega
    clear hb
    have hs := numB_succ hkl
    have ha := anewL_at hkl
    ((repeat' first | refine Zad ?_ | (refine Zac tok (by rfl) ?_; conv => whnf) | (refine Zai ?_; conv => whnf) | (refine Zar ?_; conv => whnf) | refine Zah rfl (fun hb => ?_) (fun hb => ?_) | (refine @And.intro (Zaa _ _ _ _) _ ?_ ?_; rotate_left; (conv => whnf); rotate_right)); all_goals (try ((guard_target = Zaa _ _ _ _); refine Zae ?_; (first | refine And.intro (Zeh rfl ?_) ?_ | skip); (all_goals (try simp only [Zaa, kzz, kz11, kz12, maxL, Zab] at *)); all_goals omega)))
    · have hf : s.getD k false = false := by simpa using hb
      rw [hf] at hs ha
      rw [if_neg (by simp)] at ha
      simp at hs
      refine ⟨k + 1, hkl, by omega, ?_⟩
      refine Weak.list [((30, 0, 0), .old (17, 0, 0), .row true 1 (k + 1) (fun q => [iv ((Zb5 s).getD q 0)]))] rfl (by rfl) ?_ (.old rfl (BLe.rowW ?_ (fun z hz => Wks.of ?_)) .nil)
      · ((repeat' first | exact TLes.nil | refine TLes.cons (TLe.eq rfl) ?_ | refine TLes.cons (TLe.int ?_) ?_); (all_goals first | ((try (simp only [Zaa, kzz, kz11, kz12, maxL, Zab] at *)); first | omega | exact Zaj (by omega) (by omega)) | skip))
      · exact Nat.le_refl _
      · exact app_fnW (sz := 1) (f := fun q => [iv ((Zb5 s).getD q 0)]) (g := fun q => [iv ((Zb5 s).getD q 0)]) (c := [iv (-1)]) (fun _ _ => rfl) (by rw [ha]) rfl hz
    · have hf : s.getD k false = true := by simpa using hb
      rw [hf] at hs ha
      rw [if_pos rfl] at ha
      simp at hs
      refine ⟨k + 1, hkl, by omega, ?_⟩
      refine Weak.list [((30, 0, 0), .old (21, 0, 0), .row true 1 (k + 1) (fun q => [iv ((Zb5 s).getD q 0)]))] rfl (by rfl) ?_ (.old rfl (BLe.rowW ?_ (fun z hz => Wks.of ?_)) .nil)
      · ((repeat' first | exact TLes.nil | refine TLes.cons (TLe.eq rfl) ?_ | refine TLes.cons (TLe.int ?_) ?_); (all_goals first | ((try (simp only [Zaa, kzz, kz11, kz12, maxL, Zab] at *)); first | exact Zaj (by omega) (by omega) | (simp (disch := omega) only [Zaj]; omega)) | skip))
      · exact Nat.le_refl _
      · exact app_fnW (sz := 1) (f := fun q => [iv ((Zb5 s).getD q 0)]) (g := fun q => [iv ((Zb5 s).getD q 0)]) (c := [iv (numB s k)]) (fun _ _ => rfl) (by rw [ha]) rfl hz
  · have hkl : k = s.length := by simp only [decide_eq_false_iff_not] at hb; omega
    clear hb
    subst hkl
    skip
    exact ⟨_, rfl, Rel.row rfl rfl (anewL_len s).symm (fun _ _ => rfl)⟩
end Go.Proofs.Ytmanpbgaihdalaa
namespace Go.Proofs.Ytmanpbgaihdalaa
open Go Dv
set_option maxRecDepth 10000
set_option linter.unusedSimpArgs false
def Zd5 (b : Zbd) : Nat := if b.fin.kind = 3 ∨ b.fin.kind = 4 then 2 else if b.fin.kind = 2 then 1 else 0
def okAt (f : Func) (R : List Bool) (n : Nat) : Bool := bif R.getD n false then decide (((Fl.next f n).length : Int) = Zd5 (f.blocks.getD n default)) else true
def ren1 (R : List Bool) (b : Zbd) : Zbd := if 0 < Zd5 b then { b with fin := { b.fin with to := numB R b.fin.to.toNat } } else b
def ren2 (R : List Bool) (b : Zbd) : Zbd := if b.fin.kind = 3 then { b with fin := { b.fin with els := numB R b.fin.els.toNat } } else b
def ren3 (R : List Bool) (b : Zbd) : Zbd := if b.fin.kind = 4 then { b with fin := { b.fin with pad := numB R b.fin.pad.toNat } } else b
def renN (R : List Bool) (b : Zbd) : Zbd := ren3 R (ren2 R (ren1 R b))
def Zav (R : List Bool) (k : Nat) : List Nat := (List.range k).filter fun n => R.getD n false
def Zdb (f : Func) (R : List Bool) (k : Nat) : List Zbd := (Zav R k).map fun n => renN R (f.blocks.getD n default)
def allOk (f : Func) (R : List Bool) : Bool := (List.range f.blocks.length).all fun n => okAt f R n
noncomputable def Zbj (f : Func) : Func := if allOk f (Fl.Zbc f) = true ∧ 0 < (Zdb f (Fl.Zbc f) f.blocks.length).length then { f with blocks := Zdb f (Fl.Zbc f) f.blocks.length } else f
theorem keptN_yes {R : List Bool} {k : Nat} (h : R.getD k false = true) : Zav R (k + 1) = Zav R k ++ [k] := by
  unfold Zav; rw [List.range_succ, List.filter_append]; simp [h, List.filter_cons]
  simpa [List.getD_eq_getElem?_getD] using h
theorem Zd1 {R : List Bool} {k : Nat} (h : R.getD k false = false) : Zav R (k + 1) = Zav R k := by
  unfold Zav; rw [List.range_succ, List.filter_append]; simp [List.filter_cons]
  simpa [List.getD_eq_getElem?_getD] using h
theorem keptB_le (f : Func) (R : List Bool) (k : Nat) : (Zdb f R k).length ≤ k := by
  unfold Zdb Zav
  rw [List.length_map]
  have := List.length_filter_le (fun n => R.getD n false) (List.range k)
  rw [List.length_range] at this
  exact this
theorem named_in {f : Func} {n : Nat} (hn : n < f.blocks.length) (h : (Fl.next f n).length = Zd5 (f.blocks.getD n default)) :
    (0 < Zd5 (f.blocks.getD n default) → 0 ≤ (f.blocks.getD n default).fin.to ∧ (f.blocks.getD n default).fin.to < f.blocks.length) ∧
    ((f.blocks.getD n default).fin.kind = 3 → 0 ≤ (f.blocks.getD n default).fin.els ∧ (f.blocks.getD n default).fin.els < f.blocks.length) ∧
    ((f.blocks.getD n default).fin.kind = 4 → 0 ≤ (f.blocks.getD n default).fin.pad ∧ (f.blocks.getD n default).fin.pad < f.blocks.length) := by
  have hin : Fl.isIn f n = true := by unfold Fl.isIn; simp; omega
  have hnx : Fl.next f n = Fl.kept (fun k => !Fl.isIn f k) (Fl.nxt (f.blocks.getD n default)) := by
    unfold Fl.next; rw [if_pos hin]; rfl
  rw [hnx] at h
  generalize f.blocks.getD n default = b at h
  have hlen : (Fl.nxt b).length = Zd5 b := by
    unfold Fl.nxt Fl.Zc6 Zd5
    by_cases h2 : b.fin.kind = 2
    · simp [h2]
    · by_cases h3 : b.fin.kind = 3
      · simp [h3]
      · by_cases h4 : b.fin.kind = 4
        · simp [h4]
        · simp [h2, h3, h4]
  have hall : ∀ x ∈ Fl.nxt b, Fl.isIn f x = true := by
    have := List.length_filter_eq_length_iff.1 (h.trans hlen.symm)
    intro x hx; simpa using this x hx
  have hi : ∀ x, Fl.isIn f x = true → 0 ≤ x ∧ x < f.blocks.length := fun x hx => by
    unfold Fl.isIn at hx
    cases h0 : decide (0 ≤ x) with
    | false => rw [h0] at hx; cases hx
    | true => rw [h0] at hx; simp at h0 hx; exact ⟨h0, hx⟩
  refine ⟨fun hm => hi _ (hall _ ?_), fun h3 => hi _ (hall _ ?_), fun h4 => hi _ (hall _ ?_)⟩
  · unfold Zd5 at hm
    unfold Fl.nxt Fl.Zc6
    by_cases h2 : b.fin.kind = 2
    · simp [h2]
    · by_cases h3 : b.fin.kind = 3
      · simp [h3]
      · by_cases h4 : b.fin.kind = 4
        · simp [h4]
        · simp [h2, h3, h4] at hm
  · unfold Fl.nxt Fl.Zc6; simp [h3]
  · unfold Fl.nxt Fl.Zc6; simp [h4]
end Go.Proofs.Ytmanpbgaihdalaa
namespace Go.Proofs.Ytmanpbgaihdalaa
open Go Dv
set_option maxRecDepth 10000
set_option linter.unusedSimpArgs false
end Go.Proofs.Ytmanpbgaihdalaa
namespace Go.Proofs.Ytmanpbgaihdalaa
open Go Dv
set_option maxRecDepth 10000
set_option linter.unusedSimpArgs false
def manyN (b : Zbd) : Nat := (goalsL b).length + if b.fin.kind = 4 then 1 else 0
def fitAt (f : Func) (r : List Bool) (n : Nat) : Bool := bif r.getD n false then decide (((Fl.next f n).length : Int) = manyN (f.blocks.getD n default)) else true
def fitsB (f : Func) (r : List Bool) : Bool := ((List.range f.blocks.length).all fun n => fitAt f r n) && decide (0 < f.blocks.length)
theorem fits_no {f : Func} {r : List Bool} {n : Nat} (hn : n < f.blocks.length) (h : fitAt f r n = false) : fitsB f r = false := by
  unfold fitsB
  rw [Bool.and_eq_false_iff]
  left
  rw [List.all_eq_false]
  exact ⟨n, List.mem_range.2 hn, by rw [h]; simp⟩
theorem fits_all {f : Func} {r : List Bool} (h : ∀ n, n < f.blocks.length → fitAt f r n = true) : fitsB f r = decide (0 < f.blocks.length) := by
  unfold fitsB
  rw [List.all_eq_true.2 fun n hn => h n (List.mem_range.1 hn), Bool.true_and]
theorem goalsL_len (b : Zbd) : (goalsL b).length ≤ 2 := by
  unfold goalsL; split
  · simp
  · split <;> simp
set_option maxHeartbeats 1000000 in
theorem c_fits (f : Func) (r : List Bool) (hr : r.length = f.blocks.length) : FC Try.prog 98 [.agg (Za1 f), bools r] (.bool (fitsB f r)) := by
  refine Za5 tok Try.func98 rfl (by decide +kernel) (Nat.le_of_ble_eq_true rfl) ?_
  refine Zau 1 (fun hl => ?_)
  have hmx : maxL = 4294967296 := rfl
  have hl0 : r.length ≤ maxL := hl.1
  clear hl
  (repeat' first | refine Zad ?_ | (refine Zac tok (by rfl) ?_; conv => whnf) | refine Zaf ?_)
  refine Zas (fun k : Nat => mkS [(2, .bp (2, 0, 0) 0), (4, .bool false), (9, bools r), (10, iv r.length), (11, iv k)] [((2, 0, 0), Zaw (Za1 f))]) (fun k => k ≤ f.blocks.length ∧ ∀ j, j < k → fitAt f r j = true) (fun k => f.blocks.length - k) 0 ⟨Nat.zero_le _, fun j h => absurd h (Nat.not_lt_zero j)⟩ ?_ ?_
  · refine Weak.list [((2, 0, 0), .old (2, 0, 0), Zaw (Za1 f))] rfl (by rfl) ?_ (.old rfl (BLe.refl _) .nil)
    ((repeat' first | exact TLes.nil | refine TLes.cons (TLe.eq rfl) ?_); skip)
  rintro k ⟨hk, hc⟩
  (repeat' ((fail_if_success (show AWp _ _ _ (Code.region 3 _ _) _ _)); first | refine Zad ?_ | (refine Zac tok (by rfl) ?_; conv => whnf) | refine Zaf ?_ | (refine Zai ?_; conv => whnf) | (refine Zar ?_; conv => whnf) | (refine Zak ?_; conv => whnf) | refine Zah rfl (fun hb => ?_) (fun hb => ?_)))
  · have hkl : k < f.blocks.length := by simp only [decide_eq_true_eq] at hb; omega
    clear hb
    have hgen : ∃ b, f.blocks.getD k default = b := ⟨_, rfl⟩
    obtain ⟨b, hbk⟩ := hgen
    have hgl := goalsL_len b
    have hgo := c_Goals b
    ((repeat' ((fail_if_success (show AWp _ _ _ (Code.region 5 _ _) _ _)); first | refine Zad ?_ | (refine Zac tok (by rfl) ?_; conv => whnf) | (refine @And.intro (Zaa _ _ _ _) _ ?_ ?_; rotate_left; (conv => whnf); rotate_right))); all_goals (try ((guard_target = Zaa _ _ _ _); refine Zae ?_; (all_goals (try simp only [Zaa, kzz, kz11, kz12, maxL, Zab] at *)); all_goals omega)))
    refine Za6 (Weak.list (tl := [(2, .bp (2, 0, 0) 0), (4, .bool false), (5, iv k), (6, .bool (List.getD r k false)), (7, .bp (7, 0, 0) 0), (9, bools r), (10, iv r.length), (11, iv k)]) [((2, 0, 0), .old (2, 0, 0), Zaw (Za1 f)), ((7, 0, 0), .old (7, 0, 0), .row true 14 1 (fun _ => Za3 b))] rfl (by rfl) ?_ (.old rfl (BLe.refl _) (.old rfl (BLe.rowW (Nat.le_refl _) (ltS (Wks.of (by rw [← hbk, Int.toNat_natCast]; rfl)) lt0)) .nil))) ?_
    · ((repeat' first | exact TLes.nil | refine TLes.cons (TLe.eq rfl) ?_); skip)
    (repeat' (refine Zac tok (by rfl) ?_; conv => whnf))
    refine .inl ⟨_, _, _, uG (QC.fo (rd := []) hgo (Ress.imms rfl) (.inl rfl) rfl), ?_⟩
    conv => whnf
    (repeat' first | refine Zad ?_ | (refine Zac tok (by rfl) ?_; conv => whnf))
    refine Zc8 (α := Unit) (fun _ => mkS [(2, .bp (2, 0, 0) 0), (4, .bool false), (5, iv k), (6, .bool (List.getD r k false)), (7, .bp (7, 0, 0) 0), (8, iv (manyN b)), (9, bools r), (10, iv r.length), (11, iv k)] [((2, 0, 0), Zaw (Za1 f)), ((7, 0, 0), .row true 14 1 (fun _ => Za3 b))]) (fun _ => True) ?_ ?_
    · refine Zah rfl (fun hb => ?_) (fun hb => ?_)
      · have h4 : b.fin.kind = 4 := by simpa using hb
        have hm : manyN b = (goalsL b).length + 1 := by unfold manyN; rw [if_pos h4]
        (repeat' (refine Zac tok (by rfl) ?_; conv => whnf))
        refine ⟨(), trivial, Weak.list [((2, 0, 0), .old (2, 0, 0), Zaw (Za1 f)), ((7, 0, 0), .old (7, 0, 0), .row true 14 1 (fun _ => Za3 b))] rfl (by rfl) ?_ (.old rfl (BLe.refl _) (.old rfl (BLe.refl _) .nil))⟩
        ((repeat' first | exact TLes.nil | refine TLes.cons (TLe.eq rfl) ?_ | refine TLes.cons (TLe.int ?_) ?_); (all_goals first | ((try (simp only [Zaa, kzz, kz11, kz12, maxL, Zab] at *)); (simp (disch := omega) only [Zaj]; omega)) | skip))
      · have h4 : ¬ b.fin.kind = 4 := by simpa using hb
        have hm : manyN b = (goalsL b).length := by unfold manyN; rw [if_neg h4]; rfl
        (repeat' (refine Zai ?_; conv => whnf))
        refine ⟨(), trivial, Weak.list [((2, 0, 0), .old (2, 0, 0), Zaw (Za1 f)), ((7, 0, 0), .old (7, 0, 0), .row true 14 1 (fun _ => Za3 b))] rfl (by rfl) ?_ (.old rfl (BLe.refl _) (.old rfl (BLe.refl _) .nil))⟩
        ((repeat' first | exact TLes.nil | refine TLes.cons (TLe.eq rfl) ?_ | refine TLes.cons (TLe.int ?_) ?_); (all_goals first | ((try (simp only [Zaa, kzz, kz11, kz12, maxL, Zab] at *)); omega) | skip))
    rintro ⟨⟩ - τ hw
    refine Za6 hw ?_
    clear hw
    (repeat' ((fail_if_success (show AWp _ _ _ (Code.region 8 _ _) _ _)); refine Zad ?_))
    cases hrk : r.getD k false with
    | false =>
      have hfit : fitAt f r k = true := by unfold fitAt; rw [hrk]; rfl
      refine AWp_regV tok (fun j => bif Nat.beq j 1 then some false else none) (by rfl) ?_
      conv => whnf
      refine ⟨rfl, ?_⟩
      conv => whnf
      (repeat' first | refine Zad ?_ | (refine Zac tok (by rfl) ?_; conv => whnf) | (refine Zai ?_; conv => whnf) | (refine Zak ?_; conv => whnf) | refine Zah rfl (fun hb => ?_) (fun hb => ?_))
      · cases hb
      refine ⟨k + 1, ⟨hkl, fun j hj => ?_⟩, by omega, ?_⟩
      · by_cases e : j = k
        · subst e; exact hfit
        · exact hc j (by omega)
      refine Weak.list [((2, 0, 0), .old (2, 0, 0), Zaw (Za1 f))] rfl (by rfl) ?_ (.old rfl (BLe.refl _) .nil)
      ((repeat' first | exact TLes.nil | refine TLes.cons (TLe.eq rfl) ?_ | refine TLes.cons (TLe.int ?_) ?_); (all_goals first | ((try (simp only [Zaa, kzz, kz11, kz12, maxL, Zab] at *)); exact Zaj (by omega) (by omega)) | skip))
    | true =>
      have hfit : fitAt f r k = decide (((Fl.next f k).length : Int) = manyN b) := by unfold fitAt; rw [hrk, hbk]; rfl
      refine AWp_regV tok (fun j => bif Nat.beq j 1 then some true else none) (by rfl) ?_
      conv => whnf
      refine ⟨rfl, ?_⟩
      conv => whnf
      refine .inl ⟨_, _, _, uG (QC.fo (rd := []) (Fl.fo17 f k) (Ress.imms rfl) (.inl rfl) rfl), ?_⟩
      conv => whnf
      (repeat' first | refine Zad ?_ | (refine Zac tok (by rfl) ?_; conv => whnf) | (refine Zai ?_; conv => whnf) | (refine Zak ?_; conv => whnf) | refine Zah rfl (fun hb => ?_) (fun hb => ?_))
      · refine ⟨_, rfl, Rel.bool ?_⟩
        refine (fits_no hkl ?_).symm
        rw [hfit]; simpa using hb
      refine ⟨k + 1, ⟨hkl, fun j hj => ?_⟩, by omega, ?_⟩
      · by_cases e : j = k
        · subst e; rw [hfit]; simpa using hb
        · exact hc j (by omega)
      refine Weak.list [((2, 0, 0), .old (2, 0, 0), Zaw (Za1 f))] rfl (by rfl) ?_ (.old rfl (BLe.refl _) .nil)
      ((repeat' first | exact TLes.nil | refine TLes.cons (TLe.eq rfl) ?_ | refine TLes.cons (TLe.int ?_) ?_); (all_goals first | ((try (simp only [Zaa, kzz, kz11, kz12, maxL, Zab] at *)); exact Zaj (by omega) (by omega)) | skip))
  · have hkl : k = f.blocks.length := by simp only [decide_eq_false_iff_not] at hb; omega
    clear hb
    subst hkl
    skip
    refine ⟨_, rfl, Rel.bool ?_⟩
    rw [fits_all hc]
    simp
end Go.Proofs.Ytmanpbgaihdalaa
namespace Go.Proofs.Ytmanpbgaihdalaa
open Go Dv
set_option maxRecDepth 10000
set_option linter.unusedSimpArgs false
def sel (b : Bool) (x y : AV) : AV := bif b then x else y
def blkO (b : Zbd) (x : AV) : List AV := [.bool b.landing, iv b.pad.dst, u16s b.pad.catch_, .bool b.pad.all, .bool b.pad.cleanup, x, iv b.fin.kind, iv b.fin.a, iv b.fin.dst, iv b.fin.f, ints b.fin.args, iv b.fin.to, iv b.fin.els, iv b.fin.pad]
def insR (l : List Ins) : Zam := .row true 7 l.length (fun j => Zbs (l.getD j default))
def blkR (i : Nat) (l : List Zbd) (k : Nat) (c : Nat → AV) : Zam := .row false 14 l.length (fun q => blkO (l.getD q default) (sel (Nat.blt q k) (.rs (1001, i, q) 7 0 (l.getD q default).ins.length) (c q)))
def funR (l : List Func) (k : Nat) (c : Nat → AV) : Zam := .row false 3 l.length (fun j => [iv (l.getD j default).params, iv (l.getD j default).regs, sel (Nat.blt j k) (.rs (1000, j, 0) 14 0 (l.getD j default).blocks.length) (c j)])
def insF (l : List Func) (n k : Nat) : Zan := famC 1001 (fun i q => bif (Nat.blt i n && Nat.blt q (l.getD i default).blocks.length) || (Nat.beq i n && Nat.blt q k) then some (insR ((l.getD i default).blocks.getD q default).ins) else none)
def blkF (l : List Func) (n : Nat) : Zan := famC 1000 (fun i z => bif Nat.beq z 0 && Nat.blt i n then some (blkR i (l.getD i default).blocks (l.getD i default).blocks.length (fun _ => .any)) else none)
theorem Za9 {a i : Nat} (h : i ≤ a) {x y : AV} : sel (Nat.blt a i) x y = y := by
  have : Nat.blt a i = false := by rw [Bool.eq_false_iff]; intro h2; rw [Nat.blt_eq] at h2; omega
  rw [this]; rfl
theorem Zat {a i : Nat} (h : a < i) {x y : AV} : sel (Nat.blt a i) x y = x := by
  have : Nat.blt a i = true := by rw [Nat.blt_eq]; exact h
  rw [this]; rfl
theorem Zch {i : Nat} {x y : AV} : sel (Nat.beq i i) x y = x := by
  have : Nat.beq i i = true := by simp
  rw [this]; rfl
theorem Zd8 {i j : Nat} (h : i ≠ j) {x y : AV} : sel (Nat.beq i j) x y = y := by
  have : Nat.beq i j = false := by rw [Bool.eq_false_iff]; intro h2; exact h (Nat.eq_of_beq_eq_true h2)
  rw [this]; rfl
theorem beq0_and {z n i : Nat} : (Nat.beq z 0 && Nat.blt i n) = true ↔ z = 0 ∧ i < n := by
  rw [Bool.and_eq_true, Nat.blt_eq]; simp
theorem blkF_some {l : List Func} {n : Nat} {j : Dv.Id} {b : Zam} (h : blkF l n j = some b) : ∃ i, j = (1000, i, 0) ∧ i < n ∧ b = blkR i (l.getD i default).blocks (l.getD i default).blocks.length (fun _ => .any) := by
  obtain ⟨p, q, rfl, h3⟩ := Ze8 h
  cases e : (Nat.beq q 0 && Nat.blt p n) with
  | false => rw [e] at h3; cases h3
  | true =>
    rw [e] at h3
    obtain ⟨rfl, h2⟩ := beq0_and.1 e
    exact ⟨p, rfl, h2, (Option.some.inj h3).symm⟩
theorem blkF_at {l : List Func} {n i : Nat} (h : i < n) : blkF l n (1000, i, 0) = some (blkR i (l.getD i default).blocks (l.getD i default).blocks.length (fun _ => .any)) := by
  show (bif (Nat.beq 0 0 && Nat.blt i n) then _ else none) = _
  rw [beq0_and.2 ⟨rfl, h⟩]; rfl
theorem insC {n k i q nb : Nat} : ((Nat.blt i n && Nat.blt q nb) || (Nat.beq i n && Nat.blt q k)) = true ↔ (i < n ∧ q < nb) ∨ (i = n ∧ q < k) := by
  rw [Bool.or_eq_true, Bool.and_eq_true, Bool.and_eq_true, Nat.blt_eq, Nat.blt_eq, Nat.blt_eq]; simp
theorem insF_some {l : List Func} {n k : Nat} {j : Dv.Id} {b : Zam} (h : insF l n k j = some b) : ∃ i q, j = (1001, i, q) ∧ ((i < n ∧ q < (l.getD i default).blocks.length) ∨ (i = n ∧ q < k)) ∧ b = insR ((l.getD i default).blocks.getD q default).ins := by
  obtain ⟨p, q, rfl, h3⟩ := Ze8 h
  cases e : ((Nat.blt p n && Nat.blt q (l.getD p default).blocks.length) || (Nat.beq p n && Nat.blt q k)) with
  | false => rw [e] at h3; cases h3
  | true => rw [e] at h3; exact ⟨p, q, rfl, insC.1 e, (Option.some.inj h3).symm⟩
theorem insF_at {l : List Func} {n k i q : Nat} (h : (i < n ∧ q < (l.getD i default).blocks.length) ∨ (i = n ∧ q < k)) : insF l n k (1001, i, q) = some (insR ((l.getD i default).blocks.getD q default).ins) := by
  show (bif ((Nat.blt i n && Nat.blt q (l.getD i default).blocks.length) || (Nat.beq i n && Nat.blt q k)) then _ else none) = _
  rw [insC.2 h]; rfl
def treeF (l : List Func) (n k : Nat) : Zan := orH (blkF l n) (insF l n k)
theorem Zbq {l : List Func} {n k i : Nat} (h : i < n) : treeF l n k (1000, i, 0) = some (blkR i (l.getD i default).blocks (l.getD i default).blocks.length (fun _ => .any)) := by
  unfold treeF orH; rw [blkF_at h]
theorem Zbe {l : List Func} {n k i q : Nat} (h : (i < n ∧ q < (l.getD i default).blocks.length) ∨ (i = n ∧ q < k)) : treeF l n k (1001, i, q) = some (insR ((l.getD i default).blocks.getD q default).ins) := by
  show insF l n k (1001, i, q) = _
  exact insF_at h
theorem Zcb {l : List Func} {n k : Nat} {j : Dv.Id} {b : Zam} (h : treeF l n k j = some b) : (∃ i, j = (1000, i, 0) ∧ i < n ∧ b = blkR i (l.getD i default).blocks (l.getD i default).blocks.length (fun _ => .any)) ∨
    ∃ i q, j = (1001, i, q) ∧ ((i < n ∧ q < (l.getD i default).blocks.length) ∨ (i = n ∧ q < k)) ∧ b = insR ((l.getD i default).blocks.getD q default).ins := by
  rcases Zfn h with e | ⟨_, e⟩
  · exact .inl (blkF_some e)
  · exact .inr (insF_some e)
def copyH (l : List Func) : Zan := orH (Za2 [((900, 0, 0), funR l l.length (fun _ => .any))]) (treeF l l.length 0)
section
variable {src : Dv.Id → Option Dv.Id} {h h' : Zan}
theorem Zc2 (l : List Ins) : GB src h h' (insR l) (insR l) := GB.rowI (Nat.le_refl _) (fun _ _ => ⟨rfl, rfl⟩)
theorem Zb6 {b : Zbd} {x y : AV} (hx : GV src h h' x y) : GVs src h h' (blkO b x) (blkO b y) :=
  .cons (.imm rfl) (.cons (.imm rfl) (.cons (.imm rfl) (.cons (.imm rfl) (.cons (.imm rfl) (.cons hx (GVs.imm rfl))))))
theorem Zcl {i i' : Nat} {l : List Zbd} {k k' : Nat} {c c' : Nat → AV} (hc : ∀ q, q < l.length → GV src h h' (sel (Nat.blt q k) (.rs (1001, i, q) 7 0 (l.getD q default).ins.length) (c q)) (sel (Nat.blt q k') (.rs (1001, i', q) 7 0 (l.getD q default).ins.length) (c' q))) :
    GB src h h' (blkR i l k c) (blkR i' l k' c') := GB.row (Nat.le_refl _) (fun q hq => Zb6 (hc q hq)) (fun e => by cases e)
theorem GB_fun {l : List Func} {k k' : Nat} {c c' : Nat → AV} (hc : ∀ q, q < l.length → GV src h h' (sel (Nat.blt q k) (.rs (1000, q, 0) 14 0 (l.getD q default).blocks.length) (c q)) (sel (Nat.blt q k') (.rs (1000, q, 0) 14 0 (l.getD q default).blocks.length) (c' q))) :
    GB src h h' (funR l k c) (funR l k' c') := GB.row (Nat.le_refl _) (fun q hq => .cons (.imm rfl) (.cons (.imm rfl) (.cons (hc q hq) .nil))) (fun e => by cases e)
end
theorem keep_fun {src : Dv.Id → Option Dv.Id} {h h' : Zan} {i j n m : Nat} {x : AV} {b b2 : Zam} (h1 : j < i → h' (1000, j, 0) = some b) (hs : src (1000, j, 0) = some (1000, j, 0)) (h27 : h' (27, 8, 0) = some b2) (hs27 : src (27, 8, 0) = some (27, 8, 0)) (hx : immD x = true) :
    GV src h h' (sel (Nat.blt j i) (.rs (1000, j, 0) 14 0 n) (sel (Nat.beq j i) (.rs (27, 8, 0) 14 0 m) x)) (sel (Nat.blt j i) (.rs (1000, j, 0) 14 0 n) (sel (Nat.beq j i) (.rs (27, 8, 0) 14 0 m) x)) := by
  by_cases hji : j < i
  · exact .cc (Zat hji) (Zat hji) (.rs (h1 hji) hs rfl rfl)
  · by_cases e : j = i
    · subst e
      exact .cc (by rw [Za9 (Nat.le_refl _), Zch]) (by rw [Za9 (Nat.le_refl _), Zch]) (.rs h27 hs27 rfl rfl)
    · exact .cc (by rw [Za9 (by omega), Zd8 e]) (by rw [Za9 (by omega), Zd8 e]) (.imm hx)
theorem tree_hd0 {fs : List Func} {n k : Nat} {c : Dv.Id} (hc : treeF fs n k c = none) : ∀ j, (treeF fs n k j).isSome = true → srcL [] j ≠ some c := fun j hj e => by
  cases e; rw [hc] at hj; cases hj
theorem Zeq {c : Dv.Id} {o : Option Dv.Id} : srcL [(c, o)] c = o := by simp [srcL, Za0.2 rfl]
theorem Zb0 {c j : Dv.Id} {o : Option Dv.Id} (h : c ≠ j) : srcL [(c, o)] j = some j := by simp [srcL, Zbf.2 h]
theorem updR_self {f : Nat → List AV} {k : Nat} {c : List AV} : updR f k c k = c := by
  unfold updR
  have : Nat.beq k k = true := by simp
  rw [this]; rfl
theorem keep_blk {src : Dv.Id → Option Dv.Id} {h h' : Zan} {i k q n m : Nat} {x : AV} {b b2 : Zam} (h1 : q < k → h' (1001, i, q) = some b) (hs : src (1001, i, q) = some (1001, i, q)) (h57 : h' (57, 0, 0) = some b2) (hs57 : src (57, 0, 0) = some (57, 0, 0)) (hx : immD x = true := by rfl) :
    GV src h h' (sel (Nat.blt q k) (.rs (1001, i, q) 7 0 n) (sel (Nat.beq q k) (.rs (57, 0, 0) 7 0 m) x)) (sel (Nat.blt q k) (.rs (1001, i, q) 7 0 n) (sel (Nat.beq q k) (.rs (57, 0, 0) 7 0 m) x)) := by
  by_cases hji : q < k
  · exact .cc (Zat hji) (Zat hji) (.rs (h1 hji) hs rfl rfl)
  · by_cases e : q = k
    · subst e
      exact .cc (by rw [Za9 (Nat.le_refl _), Zch]) (by rw [Za9 (Nat.le_refl _), Zch]) (.rs h57 hs57 rfl rfl)
    · exact .cc (by rw [Za9 (by omega), Zd8 e]) (by rw [Za9 (by omega), Zd8 e]) (.imm hx)
theorem c_Copy (fs : List Func) : HF Try.prog 26 [.agg (Zba ⟨fs⟩)] (.agg [.rs (900, 0, 0) 3 0 fs.length]) (copyH fs) := by
  refine HF_intro tok Try.func26 rfl (by decide +kernel) (Nat.le_of_ble_eq_true rfl) ?_
  refine Zau 0 (fun hl => ?_)
  have hl0 : fs.length ≤ maxL := hl.1.1
  have hmx : maxL = 4294967296 := rfl
  have hl1 : ∀ i, i < fs.length → (fs.getD i default).blocks.length ≤ maxL ∧ ∀ k, k < (fs.getD i default).blocks.length → ((fs.getD i default).blocks.getD k default).ins.length ≤ maxL := fun i hi => by
    have h1 := hl.1.2 i hi
    exact ⟨h1.2.2.1.1, fun k hk => (h1.2.2.1.2 k hk).2.2.2.2.2.1.1⟩
  clear hl
  (repeat' first | refine Zad ?_ | (refine Zac tok (by rfl) ?_; conv => whnf))
  refine .inl ⟨_, _, _, uG (QC.fo (rd := []) (c_CloneFuncs fs) (Ress.imms rfl) (.inl rfl) rfl), ?_⟩
  conv => whnf
  (repeat' first | refine Zad ?_ | (refine Zac tok (by rfl) ?_; conv => whnf) | refine Zaf ?_)
  refine Zas (fun i : Nat => mkF [(1, .bp (1, 0, 0) 0), (2, .bp (2, 0, 0) 0), (14, iv fs.length), (15, iv i)]
      [((1, 0, 0), .row false 1 1 (fun _ => [.rs (10, 0, 0) 3 0 fs.length])), ((2, 0, 0), Zaw [.nsl]), ((10, 0, 0), funR fs i (fun j => Zbk (fs.getD j default).blocks))] (treeF fs i 0))
    (fun i => i ≤ fs.length) (fun i => fs.length - i) 0 (Nat.zero_le _) ?_ ?_
  · refine Weak.fam [] rfl (fun i hi => by cases hi) ?_ ?_ ?_ (fun i hi => by cases hi)
    · (repeat' first | exact TLg.nil | refine TLg.cons (GV.imm rfl) ?_ | refine TLg.cons (GV.bp rfl rfl) ?_)
      all_goals rfl
    · refine .old rfl rfl (GB.one (.cons (.rs rfl rfl rfl rfl) .nil) (fun e => by cases e)) (.old rfl rfl (GB.one (GVs.imm rfl) (fun _ => rfl)) (.old rfl rfl (GB.row (Nat.le_refl _) (fun j hj => .cons (.imm rfl) (.cons (.imm rfl) (.cons ?_ .nil))) (fun e => by cases e)) .nil))
      rw [Za9 (Nat.zero_le _)]; exact GV.imm rfl
    · intro j b e
      rcases Zcb e with ⟨i, _, h, _⟩ | ⟨i, q, _, h, _⟩ <;> omega
  intro i hi
  ((repeat' ((fail_if_success (show AWp _ _ _ (Code.region 6 _ _) _ _)); first | refine Zad ?_ | (refine Zac tok (by rfl) ?_; conv => whnf) | refine Zaf ?_ | (refine Zai ?_; conv => whnf) | (refine Zar ?_; conv => whnf) | (refine Zak ?_; conv => whnf) | refine Zah rfl (fun hb => ?_) (fun hb => ?_) | (refine @And.intro (Zaa _ _ _ _) _ ?_ ?_; rotate_left; (conv => whnf); rotate_right))); all_goals (try ((guard_target = Zaa _ _ _ _); refine Zae ?_; (all_goals (try simp only [Zaa, kzz, kz11, kz12, maxL, Zab] at *)); all_goals omega)))
  · have hlt : i < fs.length := by simp only [decide_eq_true_eq] at hb; omega
    clear hb
    have hz : 0 + (i : Int).toNat = i := by simp
    ((repeat' ((fail_if_success (show AWp _ _ _ (Code.region 7 _ _) _ _)); first | (refine Zac tok (by rfl) ?_; conv => whnf) | (refine @And.intro (Zaa _ _ _ _) _ ?_ ?_; rotate_left; (conv => whnf); rotate_right))); all_goals (try ((guard_target = Zaa _ _ _ _); refine Zae ?_; (all_goals (try simp only [Zaa, kzz, kz11, kz12, maxL, Zab] at *)); all_goals omega)))
    refine fAV (y := Zbk (fs.getD i default).blocks) ?_ ?_
    · show sel _ _ (Zbk (fs.getD (0 + (i : Int).toNat) default).blocks) = _
      rw [hz, Za9 (Nat.le_refl _)]
    conv => whnf
    skip
    refine .inl ⟨_, _, _, uG (QC.fo (rd := []) (c_CloneBlocks (fs.getD i default).blocks) (Ress.imms rfl) (.inl rfl) rfl), ?_⟩
    conv => whnf
    ((repeat' ((fail_if_success (show AWp _ _ _ (Code.region 7 _ _) _ _)); first | refine Zad ?_ | (refine @And.intro (Zaa _ _ _ _) _ ?_ ?_; rotate_left; (conv => whnf); rotate_right))); all_goals (try ((guard_target = Zaa _ _ _ _); refine Zae ?_; (all_goals (try simp only [Zaa, kzz, kz11, kz12, maxL, Zab] at *)); all_goals omega)))
    have hbs : ∃ bs, (fs.getD i default).blocks = bs := ⟨_, rfl⟩
    obtain ⟨bs, hbs⟩ := hbs
    refine Za6 (Weak.fam (tl := [(1, .bp (1, 0, 0) 0), (2, .bp (2, 0, 0) 0), (14, iv fs.length), (15, iv i), (4, .rp (10, 0, 0) 3 i 0)]) (hl := [((1, 0, 0), .row false 1 1 (fun _ => [.rs (10, 0, 0) 3 0 fs.length])), ((2, 0, 0), Zaw [.nsl]), ((10, 0, 0), funR fs i (fun j => sel (Nat.beq j i) (.rs (27, 8, 0) 14 0 bs.length) (Zbk (fs.getD j default).blocks))), ((27, 8, 0), blkR i bs 0 (fun q => inss (bs.getD q default).ins))]) (F := treeF fs i 0) [((27, 8, 0), some (27, 0, 0))] rfl (fun i hi => by simp only [tgts, List.mem_singleton] at hi; subst hi; exact .inl rfl) ?_ ?_ ?_ (fun i hi => by cases hi)) ?_
    · (repeat' first | exact TLg.nil | refine TLg.cons (GV.imm rfl) ?_ | refine TLg.cons (GV.bp rfl rfl) ?_ | refine TLg.cons (GV.rp rfl rfl ?_) ?_)
      all_goals first | rfl | exact hz
    · refine .old rfl rfl (GB.one (.cons (.rs rfl rfl rfl rfl) .nil) (fun e => by cases e)) (.old rfl rfl (GB.one (GVs.imm rfl) (fun _ => rfl)) (.old rfl rfl (GB.row (Nat.le_refl _) (fun j hj => ?_) (fun e => by cases e)) (.old rfl rfl (GB.row ?_ (fun j hj => ?_) (fun e => by cases e)) .nil)))
      · refine GVs.upd (fun e => ?_) (fun e => ?_)
        · rw [hz] at e; subst e
          refine .cons (.int (by rw [hz])) (.cons (.int (by rw [hz])) (.cons ?_ .nil))
          exact .cc (x' := .rs (27, 0, 0) 14 0 (fs.getD j default).blocks.length) rfl (show sel _ _ (sel _ _ _) = _ by rw [Za9 (Nat.le_refl _), Zch]) (.rs rfl rfl rfl (by rw [hbs]))
        · rw [hz] at e
          refine .cons (.imm rfl) (.cons (.imm rfl) (.cons ?_ .nil))
          by_cases hji : j < i
          · exact .cc (show sel _ _ _ = _ from Zat hji) (show sel _ _ (sel _ _ _) = _ from Zat hji) (.rs (b := blkR j (fs.getD j default).blocks (fs.getD j default).blocks.length (fun _ => .any)) (Zbq hji) rfl rfl rfl)
          · exact .cc (show sel _ _ _ = _ from Za9 (by omega)) (show sel _ _ (sel _ _ _) = _ by rw [Za9 (by omega), Zd8 e]) (.imm rfl)
      · rw [hbs]; exact Nat.le_refl _
      · subst hbs
        exact Zb6 (.cc rfl (show sel _ _ _ = _ from Za9 (Nat.zero_le _)) (.imm rfl))
    · intro j b e
      rcases Zcb e with ⟨p, rfl, hp, rfl⟩ | ⟨p, q, rfl, hp, rfl⟩
      · exact HOk.mk rfl (b0 := blkR p (fs.getD p default).blocks (fs.getD p default).blocks.length (fun _ => .any)) (Zbq hp) (Zcl (fun q hq => .cc (Zat hq) (Zat hq) (.rs (b := insR ((fs.getD p default).blocks.getD q default).ins) (Zbe (.inl ⟨hp, hq⟩)) rfl rfl rfl)))
      · exact HOk.mk rfl (b0 := insR ((fs.getD p default).blocks.getD q default).ins) (Zbe hp) (Zc2 _)
    ((repeat' ((fail_if_success (show AWp _ _ _ (Code.region 8 _ _) _ _)); first | (refine Zac tok (by rfl) ?_; conv => whnf) | (refine @And.intro (Zaa _ _ _ _) _ ?_ ?_; rotate_left; (conv => whnf); rotate_right))); all_goals (try ((guard_target = Zaa _ _ _ _); refine Zae ?_; (all_goals (try simp only [Zaa, kzz, kz11, kz12, maxL, Zab] at *)); all_goals omega)))
    refine fAV (y := .rs (27, 8, 0) 14 0 bs.length) (show sel (Nat.blt i i) _ (sel (Nat.beq i i) _ _) = _ by rw [Za9 (Nat.le_refl _), Zch]) ?_
    conv => whnf
    (repeat' ((fail_if_success (show AWp _ _ _ (Code.region 8 _ _) _ _)); refine Zaf ?_))
    have hbl := (hl1 i hlt).1
    have hbl2 := (hl1 i hlt).2
    rw [hbs] at hbl hbl2
    clear hl1
    refine Zas (fun k : Nat => mkF [(1, .bp (1, 0, 0) 0), (2, .bp (2, 0, 0) 0), (14, iv fs.length), (15, iv i), (4, .rp (10, 0, 0) 3 i 0), (34, iv bs.length), (35, iv k)] [((1, 0, 0), .row false 1 1 (fun _ => [.rs (10, 0, 0) 3 0 fs.length])), ((2, 0, 0), Zaw [.nsl]), ((10, 0, 0), funR fs i (fun j => sel (Nat.beq j i) (.rs (27, 8, 0) 14 0 bs.length) (Zbk (fs.getD j default).blocks))), ((27, 8, 0), blkR i bs k (fun q => inss (bs.getD q default).ins))] (treeF fs i k))
      (fun k => k ≤ bs.length) (fun k => bs.length - k) 0 (Nat.zero_le _) ?_ ?_
    · refine Weak.fam [] rfl (fun i hi => by cases hi) ?_ ?_ ?_ (fun i hi => by cases hi)
      · (repeat' first | exact TLg.nil | refine TLg.cons (GV.imm rfl) ?_ | refine TLg.cons (GV.bp rfl rfl) ?_)
        all_goals rfl
      · refine .old rfl rfl (GB.one (.cons (.rs rfl rfl rfl rfl) .nil) (fun e => by cases e)) (.old rfl rfl (GB.one (GVs.imm rfl) (fun _ => rfl)) (.old rfl rfl (GB_fun (fun j hj => keep_fun (fun h => Zbq h) rfl rfl rfl rfl)) (.old rfl rfl (Zcl (fun q hq => .cc (Za9 (Nat.zero_le _)) (Za9 (Nat.zero_le _)) (.imm rfl))) .nil)))
      · intro j b e
        rcases Zcb e with ⟨p, rfl, hp, rfl⟩ | ⟨p, q, rfl, hp, rfl⟩
        · exact HOk.mk rfl (b0 := blkR p (fs.getD p default).blocks (fs.getD p default).blocks.length (fun _ => .any)) (Zbq hp) (Zcl (fun q hq => .cc (Zat hq) (Zat hq) (.rs (b := insR ((fs.getD p default).blocks.getD q default).ins) (Zbe (.inl ⟨hp, hq⟩)) rfl rfl rfl)))
        · exact HOk.mk rfl (b0 := insR ((fs.getD p default).blocks.getD q default).ins) (Zbe hp) (Zc2 _)
    intro k hk
    ((repeat' ((fail_if_success (show AWp _ _ _ (Code.region 11 _ _) _ _)); first | refine Zad ?_ | (refine Zac tok (by rfl) ?_; conv => whnf) | refine Zaf ?_ | (refine Zai ?_; conv => whnf) | (refine Zar ?_; conv => whnf) | refine Zah rfl (fun hb => ?_) (fun hb => ?_) | (refine @And.intro (Zaa _ _ _ _) _ ?_ ?_; rotate_left; (conv => whnf); rotate_right))); all_goals (try ((guard_target = Zaa _ _ _ _); refine Zae ?_; (all_goals (try simp only [Zaa, kzz, kz11, kz12, maxL, Zab] at *)); all_goals omega)))
    · have hkl : k < bs.length := by simp only [decide_eq_true_eq] at hb; omega
      clear hb
      have hzk : 0 + (k : Int).toNat = k := by simp
      have hbk := hbl2 k hkl
      refine fAV (y := .rs (27, 8, 0) 14 0 bs.length) (show sel (Nat.blt i i) _ (sel (Nat.beq i i) _ _) = _ by rw [Za9 (Nat.le_refl _), Zch]) ?_
      conv => whnf
      ((repeat' ((fail_if_success (show AWp _ _ _ (Code.region 11 _ _) _ _)); first | refine Zad ?_ | (refine @And.intro (Zaa _ _ _ _) _ ?_ ?_; rotate_left; (conv => whnf); rotate_right))); all_goals (try ((guard_target = Zaa _ _ _ _); refine Zae ?_; (all_goals (try simp only [Zaa, kzz, kz11, kz12, maxL, Zab] at *)); all_goals omega)))
      refine Za6 (Weak.fam (tl := [(1, .bp (1, 0, 0) 0), (2, .bp (2, 0, 0) 0), (14, iv fs.length), (15, iv i), (4, .rp (10, 0, 0) 3 i 0), (34, iv bs.length), (35, iv k), (6, .rp (27, 8, 0) 14 k 0)]) (hl := [((1, 0, 0), .row false 1 1 (fun _ => [.rs (10, 0, 0) 3 0 fs.length])), ((2, 0, 0), Zaw [.nsl]), ((10, 0, 0), funR fs i (fun j => sel (Nat.beq j i) (.rs (27, 8, 0) 14 0 bs.length) (Zbk (fs.getD j default).blocks))), ((27, 8, 0), blkR i bs k (fun q => inss (bs.getD q default).ins))]) (F := treeF fs i k) [] rfl (fun i hi => by cases hi) ?_ ?_ ?_ (fun i hi => by cases hi)) ?_
      · (repeat' first | exact TLg.nil | refine TLg.cons (GV.imm rfl) ?_ | refine TLg.cons (GV.bp rfl rfl) ?_ | refine TLg.cons (GV.rp rfl rfl ?_) ?_)
        all_goals first | rfl | exact hzk
      · refine .old rfl rfl (GB.one (.cons (.rs rfl rfl rfl rfl) .nil) (fun e => by cases e)) (.old rfl rfl (GB.one (GVs.imm rfl) (fun _ => rfl)) (.old rfl rfl (GB_fun (fun j hj => keep_fun (fun h => Zbq h) rfl rfl rfl rfl)) (.old rfl rfl (Zcl (fun q hq => ?_)) .nil)))
        by_cases hqk : q < k
        · exact .cc (Zat hqk) (Zat hqk) (.rs (b := insR ((fs.getD i default).blocks.getD q default).ins) (Zbe (.inr ⟨rfl, hqk⟩)) rfl rfl rfl)
        · exact .cc (Za9 (by omega)) (Za9 (by omega)) (.imm rfl)
      · intro j b e
        rcases Zcb e with ⟨p, rfl, hp, rfl⟩ | ⟨p, q, rfl, hp, rfl⟩
        · exact HOk.mk rfl (b0 := blkR p (fs.getD p default).blocks (fs.getD p default).blocks.length (fun _ => .any)) (Zbq hp) (Zcl (fun q hq => .cc (Zat hq) (Zat hq) (.rs (b := insR ((fs.getD p default).blocks.getD q default).ins) (Zbe (.inl ⟨hp, hq⟩)) rfl rfl rfl)))
        · exact HOk.mk rfl (b0 := insR ((fs.getD p default).blocks.getD q default).ins) (Zbe hp) (Zc2 _)
      conv => whnf
      refine (Zbb tok mix (by rfl) ?_)
      conv => whnf
      refine @And.intro (Zaa _ _ _ _) _ ?_ ?_
      · ((guard_target = Zaa _ _ _ _); refine Zae ?_; (all_goals (try simp only [Zaa, kzz, kz11, kz12, maxL, Zab] at *)); all_goals omega)
      conv => whnf
      refine .inl ⟨_, _, _, uG (QC.fo (rd := []) (c_CloneU16s (bs.getD k default).pad.catch_) (Ress.imms rfl) (.inl rfl) rfl), ?_⟩
      conv => whnf
      refine @And.intro (Zaa _ _ _ _) _ ?_ ?_
      · ((guard_target = Zaa _ _ _ _); refine Zae ?_; (all_goals (try simp only [Zaa, kzz, kz11, kz12, maxL, Zab] at *)); all_goals omega)
      conv => whnf
      refine fAV (y := inss (bs.getD k default).ins) (show sel (Nat.blt k k) _ _ = _ from Za9 (Nat.le_refl _)) ?_
      conv => whnf
      refine .inl ⟨_, _, _, uG (QC.fo (rd := []) (c_CloneIns (bs.getD k default).ins) (Ress.imms rfl) (.inl rfl) rfl), ?_⟩
      conv => whnf
      refine @And.intro (Zaa _ _ _ _) _ ?_ ?_
      · ((guard_target = Zaa _ _ _ _); refine Zae ?_; (all_goals (try simp only [Zaa, kzz, kz11, kz12, maxL, Zab] at *)); all_goals omega)
      conv => whnf
      refine .inl ⟨_, _, _, uG (QC.fo (rd := []) (c_CloneInts (bs.getD k default).fin.args) (Ress.imms rfl) (.inl rfl) rfl), ?_⟩
      conv => whnf
      refine @And.intro (Zaa _ _ _ _) _ ?_ ?_
      · ((guard_target = Zaa _ _ _ _); refine Zae ?_; (all_goals (try simp only [Zaa, kzz, kz11, kz12, maxL, Zab] at *)); all_goals omega)
      conv => whnf
      refine @And.intro (Zaa _ _ _ _) _ ?_ ?_
      · ((guard_target = Zaa _ _ _ _); refine Zae ?_; (all_goals (try simp only [Zaa, kzz, kz11, kz12, maxL, Zab] at *)); all_goals omega)
      conv => whnf
      refine @And.intro (Zaa _ _ _ _) _ ?_ ?_
      · ((guard_target = Zaa _ _ _ _); refine Zae ?_; (all_goals (try simp only [Zaa, kzz, kz11, kz12, maxL, Zab] at *)); all_goals omega)
      conv => whnf
      refine Za6 (Weak.fam (tl := [(1, .bp (1, 0, 0) 0), (2, .bp (2, 0, 0) 0), (14, iv fs.length), (15, iv i), (4, .rp (10, 0, 0) 3 i 0), (34, iv bs.length), (35, iv k), (6, .rp (27, 8, 0) 14 k 0)]) (hl := [((1, 0, 0), .row false 1 1 (fun _ => [.rs (10, 0, 0) 3 0 fs.length])), ((2, 0, 0), Zaw [.nsl]), ((10, 0, 0), funR fs i (fun j => sel (Nat.beq j i) (.rs (27, 8, 0) 14 0 bs.length) (Zbk (fs.getD j default).blocks))), ((27, 8, 0), blkR i bs k (fun q => sel (Nat.beq q k) (.rs (57, 0, 0) 7 0 (bs.getD k default).ins.length) (inss (bs.getD q default).ins))), ((57, 0, 0), insR (bs.getD k default).ins)]) (F := treeF fs i k) [] rfl (fun i hi => by cases hi) ?_ ?_ ?_ (fun i hi => by cases hi)) ?_
      · (repeat' first | exact TLg.nil | refine TLg.cons (GV.imm rfl) ?_ | refine TLg.cons (GV.bp rfl rfl) ?_)
      · refine .old rfl rfl (GB.one (.cons (.rs rfl rfl rfl rfl) .nil) (fun e => by cases e)) (.old rfl rfl (GB.one (GVs.imm rfl) (fun _ => rfl)) (.old rfl rfl (GB_fun (fun j hj => keep_fun (fun h => Zbq h) rfl rfl rfl rfl)) (.old rfl rfl (GB.row (Nat.le_refl _) (fun q hq => ?_) (fun e => by cases e)) (.old rfl rfl (Zc2 _) .nil))))
        by_cases hqk : q = k
        · subst hqk
          repeat rw [updR_self]
          refine .cons (.imm rfl) (.cons (.imm rfl) (.cons (.frz (hd_of rfl (tree_hd0 rfl)) rfl (Nat.le_of_eq (Nat.zero_add _)) rfl (fun x hx => GVs.eqI rfl (by rw [Nat.zero_add])) (fun _ _ => rfl)) (.cons (.imm rfl) (.cons (.imm rfl) (.cons (.cc (x' := .rs (57, 0, 0) 7 0 (bs.getD q default).ins.length) rfl (show sel (Nat.blt q q) _ (sel (Nat.beq q q) _ _) = _ by rw [Za9 (Nat.le_refl _), Zch]) (.rs rfl rfl rfl rfl)) (.cons (.imm rfl) (.cons (.imm rfl) (.cons (.imm rfl) (.cons (.imm rfl) (.cons (.frz (hd_of rfl (tree_hd0 rfl)) rfl (Nat.le_of_eq (Nat.zero_add _)) rfl (fun x hx => GVs.eqI rfl (by rw [Nat.zero_add])) (fun _ _ => rfl)) (.cons (.imm rfl) (.cons (.imm rfl) (.cons (.imm rfl) .nil)))))))))))))
        · refine GVs.upd (fun e => absurd e hqk) (fun _ => GVs.upd (fun e => absurd e hqk) (fun _ => GVs.upd (fun e => absurd e hqk) (fun _ => Zb6 ?_)))
          by_cases hlt2 : q < k
          · exact .cc (Zat hlt2) (Zat hlt2) (.rs (b := insR ((fs.getD i default).blocks.getD q default).ins) (Zbe (.inr ⟨rfl, hlt2⟩)) rfl rfl rfl)
          · exact .cc (Za9 (by omega)) (show sel _ _ (sel (Nat.beq q k) _ _) = _ by rw [Za9 (by omega), Zd8 hqk]) (.imm rfl)
      · intro j b e
        rcases Zcb e with ⟨p, rfl, hp, rfl⟩ | ⟨p, q, rfl, hp, rfl⟩
        · exact HOk.mk rfl (b0 := blkR p (fs.getD p default).blocks (fs.getD p default).blocks.length (fun _ => .any)) (Zbq hp) (Zcl (fun q hq => .cc (Zat hq) (Zat hq) (.rs (b := insR ((fs.getD p default).blocks.getD q default).ins) (Zbe (.inl ⟨hp, hq⟩)) rfl rfl rfl)))
        · exact HOk.mk rfl (b0 := insR ((fs.getD p default).blocks.getD q default).ins) (Zbe hp) (Zc2 _)
      refine Zad ?_
      refine (Zac tok (by rfl) ?_)
      conv => whnf
      refine @And.intro (Zaa _ _ _ _) _ ?_ ?_
      · ((guard_target = Zaa _ _ _ _); refine Zae ?_; (all_goals (try simp only [Zaa, kzz, kz11, kz12, maxL, Zab] at *)); all_goals omega)
      conv => whnf
      refine fAV (y := .rs (57, 0, 0) 7 0 (bs.getD k default).ins.length) (show sel (Nat.blt k k) _ (sel (Nat.beq k k) _ _) = _ by rw [Za9 (Nat.le_refl _), Zch]) ?_
      conv => whnf
      (repeat' refine Zaf ?_)
      refine Zas (fun j : Nat => mkF [(1, .bp (1, 0, 0) 0), (2, .bp (2, 0, 0) 0), (14, iv fs.length), (15, iv i), (4, .rp (10, 0, 0) 3 i 0), (34, iv bs.length), (35, iv k), (6, .rp (27, 8, 0) 14 k 0), (76, iv (bs.getD k default).ins.length), (77, iv j)] [((1, 0, 0), .row false 1 1 (fun _ => [.rs (10, 0, 0) 3 0 fs.length])), ((2, 0, 0), Zaw [.nsl]), ((10, 0, 0), funR fs i (fun j => sel (Nat.beq j i) (.rs (27, 8, 0) 14 0 bs.length) (Zbk (fs.getD j default).blocks))), ((27, 8, 0), blkR i bs k (fun q => sel (Nat.beq q k) (.rs (57, 0, 0) 7 0 (bs.getD k default).ins.length) (inss (bs.getD q default).ins))), ((57, 0, 0), insR (bs.getD k default).ins)] (treeF fs i k)) (fun j => j ≤ (bs.getD k default).ins.length) (fun j => (bs.getD k default).ins.length - j) 0 (Nat.zero_le _) ?_ ?_
      · refine Weak.fam [] rfl (fun i hi => by cases hi) ?_ ?_ ?_ (fun i hi => by cases hi)
        · (repeat' first | exact TLg.nil | refine TLg.cons (GV.imm rfl) ?_ | refine TLg.cons (GV.bp rfl rfl) ?_)
        · exact .old rfl rfl (GB.one (.cons (.rs rfl rfl rfl rfl) .nil) (fun e => by cases e)) (.old rfl rfl (GB.one (GVs.imm rfl) (fun _ => rfl)) (.old rfl rfl (GB_fun (fun j hj => keep_fun (fun h => Zbq h) rfl rfl rfl rfl)) (.old rfl rfl (Zcl (fun q hq => keep_blk (fun h => Zbe (.inr ⟨rfl, h⟩)) rfl rfl rfl)) (.old rfl rfl (Zc2 _) .nil))))
        · intro j b e
          rcases Zcb e with ⟨p, rfl, hp, rfl⟩ | ⟨p, q, rfl, hp, rfl⟩
          · exact HOk.mk rfl (b0 := blkR p (fs.getD p default).blocks (fs.getD p default).blocks.length (fun _ => .any)) (Zbq hp) (Zcl (fun q hq => .cc (Zat hq) (Zat hq) (.rs (b := insR ((fs.getD p default).blocks.getD q default).ins) (Zbe (.inl ⟨hp, hq⟩)) rfl rfl rfl)))
          · exact HOk.mk rfl (b0 := insR ((fs.getD p default).blocks.getD q default).ins) (Zbe hp) (Zc2 _)
      intro j hj
      (repeat' ((fail_if_success (show AWp _ _ _ (Code.region 15 _ _) _ _)); first | refine Zad ?_ | (refine Zac tok (by rfl) ?_; conv => whnf) | refine Zaf ?_ | (refine Zai ?_; conv => whnf) | (refine Zar ?_; conv => whnf) | refine Zah rfl (fun hb => ?_) (fun hb => ?_)))
      · have hjl : j < (bs.getD k default).ins.length := by simp only [decide_eq_true_eq] at hb; omega
        clear hb
        have hzj : 0 + (j : Int).toNat = j := by simp
        refine (Zbb tok mix (by rfl) ?_)
        conv => whnf
        refine @And.intro (Zaa _ _ _ _) _ ?_ ?_
        · ((guard_target = Zaa _ _ _ _); refine Zae ?_; (all_goals (try simp only [Zaa, kzz, kz11, kz12, maxL, Zab] at *)); all_goals omega)
        conv => whnf
        refine fAV (y := .rs (57, 0, 0) 7 0 (bs.getD k default).ins.length) (show sel (Nat.blt k k) _ (sel (Nat.beq k k) _ _) = _ by rw [Za9 (Nat.le_refl _), Zch]) ?_
        conv => whnf
        refine @And.intro (Zaa _ _ _ _) _ ?_ ?_
        · ((guard_target = Zaa _ _ _ _); refine Zae ?_; (all_goals (try simp only [Zaa, kzz, kz11, kz12, maxL, Zab] at *)); all_goals omega)
        conv => whnf
        refine fAV (y := .rs (57, 0, 0) 7 0 (bs.getD k default).ins.length) (show sel (Nat.blt k k) _ (sel (Nat.beq k k) _ _) = _ by rw [Za9 (Nat.le_refl _), Zch]) ?_
        conv => whnf
        refine @And.intro (Zaa _ _ _ _) _ ?_ ?_
        · ((guard_target = Zaa _ _ _ _); refine Zae ?_; (all_goals (try simp only [Zaa, kzz, kz11, kz12, maxL, Zab] at *)); all_goals omega)
        conv => whnf
        refine @And.intro (Zaa _ _ _ _) _ ?_ ?_
        · ((guard_target = Zaa _ _ _ _); refine Zae ?_; (all_goals (try simp only [Zaa, kzz, kz11, kz12, maxL, Zab] at *)); all_goals omega)
        conv => whnf
        refine .inl ⟨_, _, _, uG (QC.fo (rd := []) (c_CloneInts ((bs.getD k default).ins.getD (0 + (j : Int).toNat) default).args) (Ress.imms rfl) (.inl rfl) rfl), ?_⟩
        conv => whnf
        ((repeat' first | (refine Zac tok (by rfl) ?_; conv => whnf) | (refine @And.intro (Zaa _ _ _ _) _ ?_ ?_; rotate_left; (conv => whnf); rotate_right)); all_goals (try ((guard_target = Zaa _ _ _ _); refine Zae ?_; (all_goals (try simp only [Zaa, kzz, kz11, kz12, maxL, Zab] at *)); all_goals omega)))
        refine ⟨j + 1, by omega, by omega, ?_⟩
        refine Weak.fam [] rfl (fun i hi => by cases hi) ?_ ?_ ?_ (fun i hi => by cases hi)
        · (repeat' first | exact TLg.nil | refine TLg.cons (GV.imm rfl) ?_ | refine TLg.cons (GV.bp rfl rfl) ?_ | refine TLg.cons (GV.int ?_) ?_)
          all_goals first | rfl | (simp (disch := omega) only [Zaj]; omega) | omega
        · refine .old rfl rfl (GB.one (.cons (.rs rfl rfl rfl rfl) .nil) (fun e => by cases e)) (.old rfl rfl (GB.one (GVs.imm rfl) (fun _ => rfl)) (.old rfl rfl (GB_fun (fun j hj => keep_fun (fun h => Zbq h) rfl rfl rfl rfl)) (.old rfl rfl (Zcl (fun q hq => keep_blk (fun h => Zbe (.inr ⟨rfl, h⟩)) rfl rfl rfl)) (.old rfl rfl (GB.row (Nat.le_refl _) (fun q hq => GVs.upd (fun e => ?_) (fun _ => GVs.imm rfl)) (fun _ _ _ => rfl)) .nil))))
          rw [hzj] at e; subst e
          rw [hzj]
          exact .cons (.imm rfl) (.cons (.imm rfl) (.cons (.imm rfl) (.cons (.imm rfl) (.cons (.imm rfl) (.cons (.imm rfl) (.cons (.frz (hd_of rfl (tree_hd0 rfl)) rfl (Nat.le_of_eq (Nat.zero_add _)) rfl (fun x hx => GVs.eqI rfl (by rw [Nat.zero_add])) (fun _ _ => rfl)) .nil))))))
        · intro j b e
          rcases Zcb e with ⟨p, rfl, hp, rfl⟩ | ⟨p, q, rfl, hp, rfl⟩
          · exact HOk.mk rfl (b0 := blkR p (fs.getD p default).blocks (fs.getD p default).blocks.length (fun _ => .any)) (Zbq hp) (Zcl (fun q hq => .cc (Zat hq) (Zat hq) (.rs (b := insR ((fs.getD p default).blocks.getD q default).ins) (Zbe (.inl ⟨hp, hq⟩)) rfl rfl rfl)))
          · exact HOk.mk rfl (b0 := insR ((fs.getD p default).blocks.getD q default).ins) (Zbe hp) (Zc2 _)
      · have hjl : j = (bs.getD k default).ins.length := by simp only [decide_eq_false_iff_not] at hb; omega
        clear hb
        skip
        refine ⟨k + 1, hkl, by omega, ?_⟩
        refine Weak.fam [((1001, i, k), some (57, 0, 0))] rfl (fun i hi => by simp only [tgts, List.mem_singleton] at hi; subst hi; exact .inl rfl) ?_ ?_ ?_ (fun i hi => by cases hi)
        · (repeat' first | exact TLg.nil | refine TLg.cons (GV.imm rfl) ?_ | refine TLg.cons (GV.bp rfl rfl) ?_ | refine TLg.cons (GV.int ?_) ?_)
          all_goals first | rfl | (simp (disch := omega) only [Zaj]; omega) | omega
        · refine .old rfl rfl (GB.one (.cons (.rs rfl rfl rfl rfl) .nil) (fun e => by cases e)) (.old rfl rfl (GB.one (GVs.imm rfl) (fun _ => rfl)) (.old rfl rfl (GB_fun (fun j hj => keep_fun (fun h => Zbq h) rfl rfl rfl rfl)) (.old rfl rfl (Zcl (fun q hq => ?_)) .nil)))
          by_cases h1 : q < k
          · exact .cc (Zat h1) (Zat (by omega)) (.rs (b := insR ((fs.getD i default).blocks.getD q default).ins) (Zbe (.inr ⟨rfl, by omega⟩)) (Zb0 (fun e => by cases e; omega)) rfl rfl)
          · by_cases h2 : q = k
            · subst h2
              exact .cc (show sel _ _ (sel (Nat.beq q q) _ _) = _ by rw [Za9 (Nat.le_refl _), Zch]) (Zat (by omega)) (.rs (b := insR ((fs.getD i default).blocks.getD q default).ins) (Zbe (.inr ⟨rfl, by omega⟩)) Zeq rfl rfl)
            · exact .cc (show sel _ _ (sel (Nat.beq q k) _ _) = _ by rw [Za9 (by omega), Zd8 h2]) (Za9 (by omega)) (.imm rfl)
        · intro j b e
          rcases Zcb e with ⟨p, rfl, hp, rfl⟩ | ⟨p, q, rfl, hp, rfl⟩
          · exact HOk.mk rfl (b0 := blkR p (fs.getD p default).blocks (fs.getD p default).blocks.length (fun _ => .any)) (Zbq hp) (Zcl (fun q hq => .cc (Zat hq) (Zat hq) (.rs (b := insR ((fs.getD p default).blocks.getD q default).ins) (Zbe (.inl ⟨hp, hq⟩)) (Zb0 (fun e => by cases e; omega)) rfl rfl)))
          · by_cases h2 : p = i ∧ q = k
            · obtain ⟨rfl, rfl⟩ := h2
              exact HOk.mk Zeq (b0 := insR (bs.getD q default).ins) rfl (by rw [← hbs]; exact Zc2 _)
            · exact HOk.mk (Zb0 (fun e => h2 (by cases e; exact ⟨rfl, rfl⟩))) (b0 := insR ((fs.getD p default).blocks.getD q default).ins) (Zbe (by omega)) (Zc2 _)
    · have hkl : k = bs.length := by simp only [decide_eq_false_iff_not] at hb; omega
      clear hb
      skip
      refine ⟨i + 1, hlt, by omega, ?_⟩
      subst hkl
      refine Weak.fam [((1000, i, 0), some (27, 8, 0))] rfl (fun i hi => by simp only [tgts, List.mem_singleton] at hi; subst hi; exact .inl rfl) ?_ ?_ ?_ (fun i hi => by cases hi)
      · (repeat' first | exact TLg.nil | refine TLg.cons (GV.imm rfl) ?_ | refine TLg.cons (GV.bp rfl rfl) ?_ | refine TLg.cons (GV.int ?_) ?_)
        all_goals first | rfl | (simp (disch := omega) only [Zaj]; omega) | omega
      · refine .old rfl rfl (GB.one (.cons (.rs rfl rfl rfl rfl) .nil) (fun e => by cases e)) (.old rfl rfl (GB.one (GVs.imm rfl) (fun _ => rfl)) (.old rfl rfl (GB_fun (fun j hj => ?_)) .nil))
        by_cases h1 : j < i
        · exact .cc (Zat h1) (Zat (by omega)) (.rs (b := blkR j (fs.getD j default).blocks (fs.getD j default).blocks.length (fun _ => .any)) (Zbq (by omega)) (Zb0 (fun e => by cases e; omega)) rfl rfl)
        · by_cases h2 : j = i
          · subst h2
            exact .cc (show sel _ _ (sel (Nat.beq j j) _ _) = _ by rw [Za9 (Nat.le_refl _), Zch]) (Zat (by omega)) (.rs (b := blkR j (fs.getD j default).blocks (fs.getD j default).blocks.length (fun _ => .any)) (Zbq (by omega)) Zeq rfl (by rw [hbs]))
          · exact .cc (show sel _ _ (sel (Nat.beq j i) _ _) = _ by rw [Za9 (by omega), Zd8 h2]) (Za9 (by omega)) (.imm rfl)
      · intro j b e
        rcases Zcb e with ⟨p, rfl, hp, rfl⟩ | ⟨p, q, rfl, hp, rfl⟩
        · by_cases h2 : p = i
          · subst h2
            refine HOk.mk Zeq (b0 := blkR p bs bs.length (fun q => inss (bs.getD q default).ins)) rfl ?_
            rw [hbs]
            exact Zcl (fun q hq => .cc (Zat hq) (Zat hq) (.rs (b := insR ((fs.getD p default).blocks.getD q default).ins) (Zbe (.inl ⟨hp, by rw [hbs]; exact hq⟩)) rfl rfl rfl))
          · exact HOk.mk (Zb0 (fun e => h2 (by cases e; rfl))) (b0 := blkR p (fs.getD p default).blocks (fs.getD p default).blocks.length (fun _ => .any)) (Zbq (by omega)) (Zcl (fun q hq => .cc (Zat hq) (Zat hq) (.rs (b := insR ((fs.getD p default).blocks.getD q default).ins) (Zbe (.inl ⟨hp, hq⟩)) rfl rfl rfl)))
        · refine HOk.mk rfl (b0 := insR ((fs.getD p default).blocks.getD q default).ins) (Zbe ?_) (Zc2 _)
          by_cases h2 : p = i
          · subst h2; rw [hbs] at hp; omega
          · omega
  · have hil : i = fs.length := by simp only [decide_eq_false_iff_not] at hb; omega
    clear hb
    subst hil
    refine ⟨_, srcL [((900, 0, 0), some (10, 0, 0))], rfl, srcL_inj rfl (fun i hi => by simp only [tgts, List.mem_singleton] at hi; subst hi; exact .inl rfl), ?_, ?_⟩
    · intro j b e
      rcases Zfn e with e | ⟨_, e⟩
      · simp only [Za2] at e
        cases e2 : idEq (900, 0, 0) j with
        | false => rw [e2] at e; cases e
        | true =>
          have := Za0.1 e2; subst this
          rw [e2] at e; cases e
          exact HOk.mk rfl (b0 := funR fs fs.length (fun j => Zbk (fs.getD j default).blocks)) rfl (GB_fun (fun j hj => .cc (Zat hj) (Zat hj) (.rs (b := blkR j (fs.getD j default).blocks (fs.getD j default).blocks.length (fun _ => .any)) (Zbq hj) rfl rfl rfl)))
      · rcases Zcb e with ⟨p, rfl, hp, rfl⟩ | ⟨p, q, rfl, hp, rfl⟩
        · exact HOk.mk rfl (b0 := blkR p (fs.getD p default).blocks (fs.getD p default).blocks.length (fun _ => .any)) (Zbq hp) (Zcl (fun q hq => .cc (Zat hq) (Zat hq) (.rs (b := insR ((fs.getD p default).blocks.getD q default).ins) (Zbe (.inl ⟨hp, hq⟩)) rfl rfl rfl)))
        · exact HOk.mk rfl (b0 := insR ((fs.getD p default).blocks.getD q default).ins) (Zbe hp) (Zc2 _)
    · exact .agg (.cons (.rs rfl rfl rfl rfl) .nil)
end Go.Proofs.Ytmanpbgaihdalaa
namespace Go.Proofs.Ytmanpbgaihdalaa
open Go Dv
set_option maxRecDepth 10000
set_option linter.unusedSimpArgs false
def blkR1 (l : List Zbd) : Zam := .row true 14 l.length (fun q => Za3 (l.getD q default))
def funR1 (l : List Func) (c : Nat → AV) : Zam := .row false 3 l.length (fun j => [iv (l.getD j default).params, iv (l.getD j default).regs, c j])
def blkF1 (l : List Func) (p : Nat → Bool) : Zan := famC 1000 (fun j z => bif Nat.beq z 0 && (Nat.blt j l.length && p j) then some (blkR1 (l.getD j default).blocks) else none)
def mem1 (l : List Func) (j : Nat) : AV := .rs (1000, j, 0) 14 0 (l.getD j default).blocks.length
def modH1 (l : List Func) : Zan := orH (Za2 [((900, 0, 0), funR1 l (mem1 l))]) (blkF1 l (fun _ => true))
theorem blkF1_some {l : List Func} {p : Nat → Bool} {j : Dv.Id} {b : Zam} (h : blkF1 l p j = some b) : ∃ i, j = (1000, i, 0) ∧ i < l.length ∧ p i = true ∧ b = blkR1 (l.getD i default).blocks := by
  obtain ⟨a, z, rfl, h3⟩ := Ze8 h
  cases e : (Nat.beq z 0 && (Nat.blt a l.length && p a)) with
  | false => rw [e] at h3; cases h3
  | true =>
    rw [e] at h3
    rw [Bool.and_eq_true, Bool.and_eq_true, Nat.blt_eq] at e
    have := Nat.eq_of_beq_eq_true e.1
    subst this
    exact ⟨a, rfl, e.2.1, e.2.2, (Option.some.inj h3).symm⟩
theorem blkF1_at {l : List Func} {p : Nat → Bool} {i : Nat} (h : i < l.length) (hp : p i = true) : blkF1 l p (1000, i, 0) = some (blkR1 (l.getD i default).blocks) := by
  show (bif (Nat.beq 0 0 && (Nat.blt i l.length && p i)) then _ else none) = _
  have : (Nat.beq 0 0 && (Nat.blt i l.length && p i)) = true := by
    rw [Bool.and_eq_true, Bool.and_eq_true, Nat.blt_eq]; exact ⟨rfl, h, hp⟩
  rw [this]; rfl
theorem copyH_sub (fs : List Func) (j : Dv.Id) (b : Zam) (e : modH1 fs j = some b) : (j = (900, 0, 0) ∧ b = funR1 fs (mem1 fs)) ∨ ∃ i, j = (1000, i, 0) ∧ i < fs.length ∧ b = blkR1 (fs.getD i default).blocks := by
  rcases Zfn e with e | ⟨_, e⟩
  · simp only [Za2] at e
    cases e2 : idEq (900, 0, 0) j with
    | false => rw [e2] at e; cases e
    | true => have := Za0.1 e2; subst this; rw [e2] at e; cases e; exact .inl ⟨rfl, rfl⟩
  · obtain ⟨i, rfl, h1, _, h2⟩ := blkF1_some e
    exact .inr ⟨i, rfl, h1, h2⟩
theorem modH1_at {l : List Func} {i : Nat} (h : i < l.length) : modH1 l (1000, i, 0) = some (blkR1 (l.getD i default).blocks) := (show blkF1 l (fun _ => true) (1000, i, 0) = _ from blkF1_at h rfl)
theorem c_Copy1 (fs : List Func) : HF Try.prog 26 [.agg (Zba ⟨fs⟩)] (.agg [.rs (900, 0, 0) 3 0 fs.length]) (modH1 fs) := by
  refine (c_Copy fs).weak (fun j => some j) (fun j j' i _ _ h1 h2 => some_inj j j' i h1 h2) (fun j b e => ?_) (.agg (.cons (.rs (b := funR1 fs (mem1 fs)) rfl rfl rfl rfl) .nil))
  rcases copyH_sub fs j b e with ⟨rfl, rfl⟩ | ⟨i, rfl, hi, rfl⟩
  · refine HOk.mk rfl (b0 := funR fs fs.length (fun _ => .any)) rfl (GB.row (Nat.le_refl _) (fun j hj => .cons (.imm rfl) (.cons (.imm rfl) (.cons ?_ .nil))) (fun e => by cases e))
    exact .cc (Zat hj) rfl (.rs (modH1_at hj) rfl rfl rfl)
  · refine HOk.mk rfl (b0 := blkR i (fs.getD i default).blocks (fs.getD i default).blocks.length (fun _ => .any)) (show treeF fs fs.length 0 (1000, i, 0) = _ from Zbq hi) (GB.row (Nat.le_refl _) (fun q hq => ?_) (fun _ _ _ => rfl))
    refine .cons (.imm rfl) (.cons (.imm rfl) (.cons (.imm rfl) (.cons (.imm rfl) (.cons (.imm rfl) (.cons ?_ (GVs.imm rfl))))))
    refine .cc (Zat hq) rfl (.frz (k := ((fs.getD i default).blocks.getD q default).ins.length) (f := fun j => Zbs (((fs.getD i default).blocks.getD q default).ins.getD j default)) (imm := true) (fun j hj e => ?_) (show treeF fs fs.length 0 (1001, i, q) = _ from Zbe (.inl ⟨hi, hq⟩)) (Nat.le_of_eq (Nat.zero_add _)) rfl (fun x hx => GVs.eqI rfl (by rw [Nat.zero_add])) (fun _ _ => rfl))
    cases e
    cases hj
theorem rel_mod1 (l : List Func) : Rel (modH1 l) (.agg [.rs (900, 0, 0) 3 0 l.length]) (.agg (Zba ⟨l⟩)) := by
  refine Rel.agg (Rels.cons (Rel.rs (imm := false) (k := l.length) (f := fun j => [iv (l.getD j default).params, iv (l.getD j default).regs, mem1 l j]) rfl (Nat.le_of_eq (Nat.zero_add _)) (fun i hi => ?_)) Rels.nil)
  rw [Nat.zero_add]
  refine Rels.cons (Rel.imm rfl) (Rels.cons (Rel.imm rfl) (Rels.cons (Rel.rs (imm := true) (k := (l.getD i default).blocks.length) (f := fun q => Za3 ((l.getD i default).blocks.getD q default)) (modH1_at hi) (Nat.le_of_eq (Nat.zero_add _)) (fun q hq => ?_)) Rels.nil))
  rw [Nat.zero_add]
  exact Rels.imm rfl
theorem c_CopyF (m : Zay) : FC Try.prog 26 [.agg (Zba m)] (.agg (Zba m)) := (c_Copy1 m.funcs).fc (rel_mod1 m.funcs)
end Go.Proofs.Ytmanpbgaihdalaa
namespace Go.Proofs.Ytmanpbgaihdalaa
open Go Dv
set_option maxRecDepth 10000
set_option linter.unusedSimpArgs false
def twoO (op : Int) : Bool := bif decide (2 < op) then decide (op ≤ 8) else false
def turnsO (op : Int) : Bool := decide (op = 3 ∨ op = 5 ∨ op = 7)
end Go.Proofs.Ytmanpbgaihdalaa
namespace Go.Proofs.Ytmanpbgaihdalaa
open Go Dv
set_option maxRecDepth 10000
set_option linter.unusedSimpArgs false
structure Deed where
  op : Int
  a : Int
  b : Int
deriving DecidableEq, Inhabited
def Deed.l (d : Deed) : List Int := [d.op, d.a, d.b]
def ofD (x : Ins) : Deed := if turnsO x.op = true ∧ x.b < x.a then ⟨x.op, x.b, x.a⟩ else ⟨x.op, x.a, x.b⟩
abbrev κS : MK := ⟨true, 3, .i64, .i64⟩
def hit (p : Int) (q : List Int × Int) : Bool := decide (q.1.getD 1 0 = p) || decide (q.1.getD 2 0 = p) || decide (q.2 = p)
def Zdc (m : List (List Int × Int)) (p : Int) : List (List Int × Int) := m.filter fun q => !hit p q
structure FInv (m : List (List Int × Int)) (p : Int) (clock : Nat) (es : Array MapEntry) (seen : Array Nat) (m' : List (List Int × Int)) : Prop where
  ok : MOk κS m' es clock
  same : Zdc m' p = Zdc m p
  past : ∀ e ∈ es.toList, seen.contains e.born = true → ∀ k v, (k, v) ∈ m' → e.key = keyV κS k → hit p (k, v) = false
theorem FInv.done {m : List (List Int × Int)} {p : Int} {clock : Nat} {es : Array MapEntry} {seen : Array Nat} {m' : List (List Int × Int)} (h : FInv m p clock es seen m') (h0 : (leftOf es seen).size = 0) : MOk κS (Zdc m p) es clock := by
  rw [← h.same]
  have : Zdc m' p = m' := List.filter_eq_self.2 (fun q hq => by
    have h1 : (keyV κS q.1, Value.int .i64 q.2) ∈ m'.map (fun p => (keyV κS p.1, Value.int κS.vk p.2)) := List.mem_map.2 ⟨q, hq, rfl⟩
    rw [← h.ok.kv] at h1
    obtain ⟨e, he, h2⟩ := List.mem_map.1 h1
    have h3 := Prod.mk.inj h2
    rw [h.past e he (all_seen es seen h0 e he) q.1 q.2 hq h3.1]; rfl)
  rw [this]; exact h.ok
abbrev Mp := List (List Int × Int)
def sameHit (m : Mp) (x : Ins) : Bool := bif twoO x.op then (Zcx m (ofD x).l).isSome else false
def sameY (m : Mp) (x : Ins) : Ins := if sameHit m x = true then ⟨2, x.dst, (Zcx m (ofD x).l).getD 0, 0, 0, 0, []⟩ else x
def sameOk (m : Mp) (x : Ins) : Bool := twoO x.op && !(Zcx m (ofD x).l).isSome
def sameM (m : Mp) (x : Ins) : Mp := if (sameY m x).op = 10 ∨ (sameY m x).op = 12 then m else
  if sameOk m x = true ∧ (sameY m x).dst ≠ (ofD x).a ∧ (sameY m x).dst ≠ (ofD x).b then mput (Zdc m (sameY m x).dst) (ofD x).l (sameY m x).dst else Zdc m (sameY m x).dst
def sameIns : Mp → List Ins → List Ins × Mp
  | m, [] => ([], m)
  | m, x :: r => (sameY m x :: (sameIns (sameM m x) r).1, (sameIns (sameM m x) r).2)
def sameAt (l : List Ins) (i : Nat) : List Ins := (sameIns [] (l.take i)).1 ++ l.drop i
end Go.Proofs.Ytmanpbgaihdalaa
namespace Go.Proofs.Ytmanpbgaihdalaa
open Go Dv
set_option maxRecDepth 10000
set_option linter.unusedSimpArgs false
section
variable (B : Zbd → Zbd)
def mapB (l : List Zbd) (k : Nat) : List Zbd := (List.range l.length).map fun q => if q < k then B (l.getD q default) else l.getD q default
end
theorem range_getD {α : Type} (d : α) (f : Nat → α) {n i : Nat} (h : i < n) : ((List.range n).map f).getD i d = f i := by
  simp [List.getD_eq_getElem?_getD, h]
theorem mapB_len {B : Zbd → Zbd} (l : List Zbd) (k : Nat) : (mapB B l k).length = l.length := by simp [mapB]
theorem mapB_at {B : Zbd → Zbd} {l : List Zbd} {k q : Nat} (h : q < l.length) : (mapB B l k).getD q default = if q < k then B (l.getD q default) else l.getD q default := range_getD _ _ h
theorem mapB_all {B : Zbd → Zbd} (l : List Zbd) : mapB B l l.length = l.map B := by
  refine Zbl default (by simp [mapB]) (fun i hi => ?_)
  rw [mapB_len] at hi
  rw [mapB_at hi, if_pos hi, Zbm (d := default) (l := l.map B) (by simpa using hi), Zbm _ hi]; simp
theorem GB_fun1 {src : Dv.Id → Option Dv.Id} {h h' : Zan} {l : List Func} {c c' : Nat → AV} (hc : ∀ q, q < l.length → GV src h h' (c q) (c' q)) : GB src h h' (funR1 l c) (funR1 l c') :=
  GB.row (Nat.le_refl _) (fun q hq => .cons (.imm rfl) (.cons (.imm rfl) (.cons (hc q hq) .nil))) (fun e => by cases e)
def errM (m : Zay) : Int := if Zdf m = true then 0 else 1
end Go.Proofs.Ytmanpbgaihdalaa
namespace Go.Proofs.Ytmanpbgaihdalaa
open Go Dv
set_option maxRecDepth 10000
set_option linter.unusedSimpArgs false
theorem c_rInts (a b : List Int) : FC Try.prog 83 [ints a, ints b] (.bool (decide (a = b))) := by
  refine Za5 tok Try.func83 rfl (by decide +kernel) (Nat.le_of_ble_eq_true rfl) ?_
  refine Zau 0 (fun hl => ?_)
  have hl0 : a.length ≤ maxL := hl.1
  (repeat' first | refine Zad ?_ | (refine Zac tok (by rfl) ?_; conv => whnf) | refine Zaf ?_ | (refine Zai ?_; conv => whnf) | (refine Zak ?_; conv => whnf) | refine Zah rfl (fun hb => ?_) (fun hb => ?_))
  · refine ⟨_, rfl, Rel.bool ?_⟩
    symm; rw [decide_eq_false_iff_not]
    intro e; subst e; simp at hb
  have hlen : a.length = b.length := by simp at hb; omega
  clear hb
  refine Zas (fun i : Nat => mkS [(0, ints a), (1, ints b), (5, iv i)] [])
    (fun i => i ≤ a.length ∧ ∀ j, j < i → a.getD j 0 = b.getD j 0) (fun i => a.length - i) 0 ⟨Nat.zero_le _, by simp⟩ ?_ ?_
  · refine Weak.list [] rfl (by rfl) ?_ .nil
    ((repeat' first | exact TLes.nil | refine TLes.cons (TLe.eq rfl) ?_); skip)
  rintro i ⟨hi2, hc⟩
  ((repeat' first | refine Zad ?_ | (refine Zac tok (by rfl) ?_; conv => whnf) | (refine Zbb tok mix (by rfl) ?_; conv => whnf) | refine Zaf ?_ | (refine Zai ?_; conv => whnf) | (refine Zar ?_; conv => whnf) | (refine Zak ?_; conv => whnf) | refine Zah rfl (fun hb => ?_) (fun hb => ?_) | (refine @And.intro (Zaa _ _ _ _) _ ?_ ?_; rotate_left; (conv => whnf); rotate_right)); all_goals (try ((guard_target = Zaa _ _ _ _); refine Zae ?_; (all_goals (try simp only [Zaa, kzz, kz11, kz12, maxL, Zab] at *)); all_goals omega)))
  · have hlt : i < a.length := by rename_i h; simp only [Zaa, kzz, kz11, kz12, maxL, Zab] at *; omega
    refine ⟨_, rfl, Rel.bool ?_⟩
    symm; rw [decide_eq_false_iff_not]
    intro e; subst e; simp at hb
  · have hlt : i < a.length := by rename_i h; simp only [Zaa, kzz, kz11, kz12, maxL, Zab] at *; omega
    refine ⟨i + 1, ⟨hlt, fun j hj => ?_⟩, by omega, ?_⟩
    · by_cases e : j = i
      · subst e; simpa using hb
      · exact hc j (by omega)
    refine Weak.list [] rfl (by rfl) ?_ .nil
    ((repeat' first | exact TLes.nil | refine TLes.cons (TLe.eq rfl) ?_ | refine TLes.cons (TLe.int ?_) ?_); (all_goals first | ((try (simp only [Zaa, kzz, kz11, kz12, maxL, Zab] at *)); exact Zaj (by omega) (by omega)) | skip))
  · refine ⟨_, rfl, Rel.bool ?_⟩
    symm; rw [decide_eq_true_eq]
    exact Zbl 0 hlen (fun j hj => hc j (by simp only [Zaa, kzz, kz11, kz12, maxL, Zab] at *; omega))
theorem c_rSameIns (x y : Ins) : FC Try.prog 38 [.agg (Zbs x), .agg (Zbs y)] (.bool (decide (x = y))) := by
  refine Za5 tok Try.func38 rfl (by decide +kernel) (Nat.le_of_ble_eq_true rfl) ?_
  (repeat' first | refine Zad ?_ | (refine Zac tok (by rfl) ?_; conv => whnf))
  refine .inl ⟨_, _, _, uG (QC.fc (c_rInts x.args y.args) rfl), ?_⟩
  conv => whnf
  (repeat' (refine Zak ?_; conv => whnf))
  refine ⟨_, rfl, Rel.bool ?_⟩
  obtain ⟨a1, a2, a3, a4, a5, a6, a7⟩ := x
  obtain ⟨b1, b2, b3, b4, b5, b6, b7⟩ := y
  rw [Bool.eq_iff_iff]
  simp [and_assoc]
theorem c_rSameEnd (x y : End) : FC Try.prog 37 [.agg (Zdr x), .agg (Zdr y)] (.bool (decide (x = y))) := by
  refine Za5 tok Try.func37 rfl (by decide +kernel) (Nat.le_of_ble_eq_true rfl) ?_
  (repeat' first | refine Zad ?_ | (refine Zac tok (by rfl) ?_; conv => whnf))
  refine .inl ⟨_, _, _, uG (QC.fc (c_rInts x.args y.args) rfl), ?_⟩
  conv => whnf
  (repeat' (refine Zak ?_; conv => whnf))
  refine ⟨_, rfl, Rel.bool ?_⟩
  obtain ⟨a1, a2, a3, a4, a5, a6, a7, a8⟩ := x
  obtain ⟨b1, b2, b3, b4, b5, b6, b7, b8⟩ := y
  rw [Bool.eq_iff_iff]
  simp [and_assoc]
theorem c_rSamePad (x y : Pad) : FC Try.prog 65 [.agg (encPad x), .agg (encPad y)] (.bool (decide (x = y))) := by
  refine Za5 tok Try.func65 rfl (by decide +kernel) (Nat.le_of_ble_eq_true rfl) ?_
  refine Zau 0 (fun hl => ?_)
  have hl0 : x.catch_.length ≤ maxL := hl.2.1.1
  obtain ⟨a1, a2, a3, a4⟩ := x
  obtain ⟨b1, b2, b3, b4⟩ := y
  simp only at hl0
  (repeat' first | refine Zad ?_ | (refine Zac tok (by rfl) ?_; conv => whnf) | refine Zaf ?_ | (refine Zai ?_; conv => whnf) | (refine Zak ?_; conv => whnf) | refine Zah rfl (fun hb => ?_) (fun hb => ?_))
  · refine ⟨_, rfl, Rel.bool ?_⟩
    symm; rw [decide_eq_false_iff_not]
    intro e; cases e; simp at hb
  have hall : a1 = b1 ∧ a3 = b3 ∧ a4 = b4 ∧ a2.length = b2.length := by
    simp [and_assoc] at hb
    refine ⟨hb.1, hb.2.1, hb.2.2.1, ?_⟩
    have := hb.2.2.2; omega
  clear hb
  obtain ⟨rfl, rfl, rfl, hlen⟩ := hall
  refine Zas (fun i : Nat => mkS [(2, .bp (2, 0, 0) 0), (3, .bp (3, 0, 0) 0), (5, iv i)] [((2, 0, 0), Zaw (encPad ⟨a1, a2, a3, a4⟩)), ((3, 0, 0), Zaw (encPad ⟨a1, b2, a3, a4⟩))])
    (fun i => i ≤ a2.length ∧ ∀ j, j < i → a2.getD j 0 = b2.getD j 0) (fun i => a2.length - i) 0 ⟨Nat.zero_le _, by simp⟩ ?_ ?_
  · refine Weak.list [((2, 0, 0), .old (2, 0, 0), Zaw (encPad ⟨a1, a2, a3, a4⟩)), ((3, 0, 0), .old (3, 0, 0), Zaw (encPad ⟨a1, b2, a3, a4⟩))] rfl (by rfl) ?_ (.old rfl (BLe.refl _) (.old rfl (BLe.refl _) .nil))
    ((repeat' first | exact TLes.nil | refine TLes.cons (TLe.eq rfl) ?_); skip)
  rintro i ⟨hi2, hc⟩
  ((repeat' first | refine Zad ?_ | (refine Zac tok (by rfl) ?_; conv => whnf) | (refine Zbb tok mix (by rfl) ?_; conv => whnf) | refine Zaf ?_ | (refine Zai ?_; conv => whnf) | (refine Zar ?_; conv => whnf) | (refine Zak ?_; conv => whnf) | refine Zah rfl (fun hb => ?_) (fun hb => ?_) | (refine @And.intro (Zaa _ _ _ _) _ ?_ ?_; rotate_left; (conv => whnf); rotate_right)); all_goals (try ((guard_target = Zaa _ _ _ _); refine Zae ?_; (all_goals (try simp only [Zaa, kzz, kz11, kz12, maxL, Zab] at *)); all_goals omega)))
  · have hlt : i < a2.length := by rename_i h; simp only [Zaa, kzz, kz11, kz12, maxL, Zab] at *; omega
    refine ⟨_, rfl, Rel.bool ?_⟩
    symm; rw [decide_eq_false_iff_not]
    intro e; cases e; simp at hb
  · have hlt : i < a2.length := by rename_i h; simp only [Zaa, kzz, kz11, kz12, maxL, Zab] at *; omega
    refine ⟨i + 1, ⟨hlt, fun j hj => ?_⟩, by omega, ?_⟩
    · by_cases e : j = i
      · subst e; simpa using hb
      · exact hc j (by omega)
    refine Weak.list [((2, 0, 0), .old (2, 0, 0), Zaw (encPad ⟨a1, a2, a3, a4⟩)), ((3, 0, 0), .old (3, 0, 0), Zaw (encPad ⟨a1, b2, a3, a4⟩))] rfl (by rfl) ?_ (.old rfl (BLe.refl _) (.old rfl (BLe.refl _) .nil))
    ((repeat' first | exact TLes.nil | refine TLes.cons (TLe.eq rfl) ?_ | refine TLes.cons (TLe.int ?_) ?_); (all_goals first | ((try (simp only [Zaa, kzz, kz11, kz12, maxL, Zab] at *)); exact Zaj (by omega) (by omega)) | skip))
  · refine ⟨_, rfl, Rel.bool ?_⟩
    symm; rw [decide_eq_true_eq]
    rw [Zbl 0 hlen (fun j hj => hc j (by simp only [Zaa, kzz, kz11, kz12, maxL, Zab] at *; omega))]
theorem c_rSameFunc (x y : Func) : FC Try.prog 44 [.agg (Za1 x), .agg (Za1 y)] (.bool (decide (x = y))) := by
  refine Za5 tok Try.func44 rfl (by decide +kernel) (Nat.le_of_ble_eq_true rfl) ?_
  refine Zau 0 (fun hl => ?_)
  have hl0 : x.blocks.length ≤ maxL := hl.2.2.1.1
  have hl1 : ∀ i, i < x.blocks.length → (x.blocks.getD i default).ins.length ≤ maxL := fun i hi => (hl.2.2.1.2 i hi).2.2.2.2.2.1.1
  have hmx : maxL = 4294967296 := rfl
  clear hl
  obtain ⟨a1, a2, a3⟩ := x
  obtain ⟨b1, b2, b3⟩ := y
  simp only at hl0 hl1
  (repeat' first | refine Zad ?_ | (refine Zac tok (by rfl) ?_; conv => whnf) | refine Zaf ?_ | (refine Zai ?_; conv => whnf) | (refine Zak ?_; conv => whnf) | refine Zah rfl (fun hb => ?_) (fun hb => ?_))
  · refine ⟨_, rfl, Rel.bool ?_⟩
    symm; rw [decide_eq_false_iff_not]
    intro e; cases e; simp at hb
  have hall : a1 = b1 ∧ a2 = b2 ∧ a3.length = b3.length := by
    simp [and_assoc] at hb
    refine ⟨hb.1, hb.2.1, ?_⟩
    have := hb.2.2; omega
  clear hb
  obtain ⟨rfl, rfl, hlen⟩ := hall
  refine Zas (fun i : Nat => mkS [(2, .bp (2, 0, 0) 0), (3, .bp (3, 0, 0) 0), (5, iv i)] [((2, 0, 0), Zaw (Za1 ⟨a1, a2, a3⟩)), ((3, 0, 0), Zaw (Za1 ⟨a1, a2, b3⟩))])
    (fun i => i ≤ a3.length ∧ ∀ j, j < i → a3.getD j default = b3.getD j default) (fun i => a3.length - i) 0 ⟨Nat.zero_le _, by simp⟩ ?_ ?_
  · refine Weak.list [((2, 0, 0), .old (2, 0, 0), Zaw (Za1 ⟨a1, a2, a3⟩)), ((3, 0, 0), .old (3, 0, 0), Zaw (Za1 ⟨a1, a2, b3⟩))] rfl (by rfl) ?_ (.old rfl (BLe.refl _) (.old rfl (BLe.refl _) .nil))
    ((repeat' first | exact TLes.nil | refine TLes.cons (TLe.eq rfl) ?_); skip)
  rintro i ⟨hi2, hc⟩
  ((repeat' ((fail_if_success (show AWp _ _ _ (Code.region 7 _ _) _ _)); first | refine Zad ?_ | (refine Zac tok (by rfl) ?_; conv => whnf) | (refine Zbb tok mix (by rfl) ?_; conv => whnf) | refine Zaf ?_ | (refine Zai ?_; conv => whnf) | (refine Zar ?_; conv => whnf) | (refine Zak ?_; conv => whnf) | refine Zah rfl (fun hb => ?_) (fun hb => ?_) | (refine @And.intro (Zaa _ _ _ _) _ ?_ ?_; rotate_left; (conv => whnf); rotate_right))); all_goals (try ((guard_target = Zaa _ _ _ _); refine Zae ?_; (all_goals (try simp only [Zaa, kzz, kz11, kz12, maxL, Zab] at *)); all_goals omega)))
  · have hlt : i < a3.length := by simp only [decide_eq_true_eq] at hb; omega
    clear hb
    have hil := hl1 i hlt
    have hii : (i : Int).toNat = i := Int.toNat_natCast i
    have hgen : ∃ p, a3.getD i default = p := ⟨_, rfl⟩
    obtain ⟨p, hp⟩ := hgen
    have hgen : ∃ q, b3.getD i default = q := ⟨_, rfl⟩
    obtain ⟨q, hq⟩ := hgen
    refine Za6 (Weak.list (tl := [(2, .bp (2, 0, 0) 0), (3, .bp (3, 0, 0) 0), (5, iv i), (6, .bp (6, 0, 0) 0), (7, .bp (7, 0, 0) 0)]) [((2, 0, 0), .old (2, 0, 0), Zaw (Za1 ⟨a1, a2, a3⟩)), ((3, 0, 0), .old (3, 0, 0), Zaw (Za1 ⟨a1, a2, b3⟩)), ((6, 0, 0), .old (6, 0, 0), .row true 14 1 (fun _ => Za3 p)), ((7, 0, 0), .old (7, 0, 0), .row true 14 1 (fun _ => Za3 q))] rfl (by rfl) ?_ (.old rfl (BLe.refl _) (.old rfl (BLe.refl _) (.old rfl (BLe.rowW (Nat.le_refl _) (ltS (Wks.of (by rw [← hp]; rfl)) lt0)) (.old rfl (BLe.rowW (Nat.le_refl _) (ltS (Wks.of (by rw [← hq]; rfl)) lt0)) .nil))))) ?_
    · (repeat' first | exact TLes.nil | refine TLes.cons (TLe.eq rfl) ?_)
    have hne : p ≠ q → (⟨a1, a2, a3⟩ : Func) ≠ ⟨a1, a2, b3⟩ := fun h e => by cases e; exact h (hp.symm.trans hq)
    rw [hp] at hil
    (repeat' (refine Zac tok (by rfl) ?_; conv => whnf))
    refine .inl ⟨_, _, _, uG (QC.fc (c_rSamePad p.pad q.pad) rfl), ?_⟩
    conv => whnf
    skip
    refine .inl ⟨_, _, _, uG (QC.fc (c_rSameEnd p.fin q.fin) rfl), ?_⟩
    conv => whnf
    (repeat' first | refine Zad ?_ | (refine Zac tok (by rfl) ?_; conv => whnf) | refine Zaf ?_ | (refine Zai ?_; conv => whnf) | (refine Zak ?_; conv => whnf) | refine Zah rfl (fun hb => ?_) (fun hb => ?_))
    · refine ⟨_, rfl, Rel.bool ?_⟩
      symm; rw [decide_eq_false_iff_not]
      refine hne (fun e => ?_)
      subst e; simp at hb
    have hall : p.landing = q.landing ∧ p.pad = q.pad ∧ p.fin = q.fin ∧ p.ins.length = q.ins.length := by
      simp [and_assoc] at hb
      refine ⟨hb.1, hb.2.1, hb.2.2.1, ?_⟩
      have := hb.2.2.2; omega
    clear hb
    obtain ⟨e1, e2, e3, e4⟩ := hall
    refine Zas (fun k : Nat => mkS [(2, .bp (2, 0, 0) 0), (3, .bp (3, 0, 0) 0), (5, iv i), (6, .bp (6, 0, 0) 0), (7, .bp (7, 0, 0) 0), (8, iv k)] [((2, 0, 0), Zaw (Za1 ⟨a1, a2, a3⟩)), ((3, 0, 0), Zaw (Za1 ⟨a1, a2, b3⟩)), ((6, 0, 0), .row true 14 1 (fun _ => Za3 p)), ((7, 0, 0), .row true 14 1 (fun _ => Za3 q))])
      (fun k => k ≤ p.ins.length ∧ ∀ j, j < k → p.ins.getD j default = q.ins.getD j default) (fun k => p.ins.length - k) 0 ⟨Nat.zero_le _, by simp⟩ ?_ ?_
    · refine Weak.list [((2, 0, 0), .old (2, 0, 0), Zaw (Za1 ⟨a1, a2, a3⟩)), ((3, 0, 0), .old (3, 0, 0), Zaw (Za1 ⟨a1, a2, b3⟩)), ((6, 0, 0), .old (6, 0, 0), .row true 14 1 (fun _ => Za3 p)), ((7, 0, 0), .old (7, 0, 0), .row true 14 1 (fun _ => Za3 q))] rfl (by rfl) ?_ (.old rfl (BLe.refl _) (.old rfl (BLe.refl _) (.old rfl (BLe.refl _) (.old rfl (BLe.refl _) .nil))))
      ((repeat' first | exact TLes.nil | refine TLes.cons (TLe.eq rfl) ?_); skip)
    rintro k ⟨hk2, hc2⟩
    ((repeat' first | refine Zad ?_ | (refine Zac tok (by rfl) ?_; conv => whnf) | (refine Zbb tok mix (by rfl) ?_; conv => whnf) | refine Zaf ?_ | (refine Zai ?_; conv => whnf) | (refine Zar ?_; conv => whnf) | refine Zah rfl (fun hb => ?_) (fun hb => ?_) | (refine @And.intro (Zaa _ _ _ _) _ ?_ ?_; rotate_left; (conv => whnf); rotate_right)); all_goals (try ((guard_target = Zaa _ _ _ _); refine Zae ?_; (all_goals (try simp only [Zaa, kzz, kz11, kz12, maxL, Zab] at *)); all_goals omega)))
    · have hlt2 : k < p.ins.length := by simp only [Zaa, kzz, kz11, kz12, maxL, Zab] at *; omega
      refine .inl ⟨_, _, _, uG (QC.fc (c_rSameIns (p.ins.getD (k : Int).toNat default) (q.ins.getD (k : Int).toNat default)) rfl), ?_⟩
      conv => whnf
      (repeat' first | refine Zad ?_ | (refine Zac tok (by rfl) ?_; conv => whnf) | (refine Zai ?_; conv => whnf) | (refine Zak ?_; conv => whnf) | refine Zah rfl (fun hb => ?_) (fun hb => ?_))
      · refine ⟨_, rfl, Rel.bool ?_⟩
        symm; rw [decide_eq_false_iff_not]
        refine hne (fun e => ?_)
        subst e; simp at hb
      · refine ⟨k + 1, ⟨hlt2, fun j hj => ?_⟩, by omega, ?_⟩
        · by_cases e : j = k
          · subst e; simpa using hb
          · exact hc2 j (by omega)
        refine Weak.list [((2, 0, 0), .old (2, 0, 0), Zaw (Za1 ⟨a1, a2, a3⟩)), ((3, 0, 0), .old (3, 0, 0), Zaw (Za1 ⟨a1, a2, b3⟩)), ((6, 0, 0), .old (6, 0, 0), .row true 14 1 (fun _ => Za3 p)), ((7, 0, 0), .old (7, 0, 0), .row true 14 1 (fun _ => Za3 q))] rfl (by rfl) ?_ (.old rfl (BLe.refl _) (.old rfl (BLe.refl _) (.old rfl (BLe.refl _) (.old rfl (BLe.refl _) .nil))))
        ((repeat' first | exact TLes.nil | refine TLes.cons (TLe.eq rfl) ?_ | refine TLes.cons (TLe.int ?_) ?_); (all_goals first | ((try (simp only [Zaa, kzz, kz11, kz12, maxL, Zab] at *)); exact Zaj (by omega) (by omega)) | skip))
    · have hk3 : k = p.ins.length := by simp only [Zaa, kzz, kz11, kz12, maxL, Zab] at *; omega
      have hpq : p = q := by
        have e5 : p.ins = q.ins := Zbl default e4 (fun j hj => hc2 j (by omega))
        obtain ⟨p1, p2, p3, p4⟩ := p
        obtain ⟨q1, q2, q3, q4⟩ := q
        simp only at e1 e2 e3 e5
        subst e1; subst e2; subst e3; subst e5; rfl
      refine ⟨i + 1, ⟨hlt, fun j hj => ?_⟩, by omega, ?_⟩
      · by_cases e : j = i
        · subst e; rw [hp, hq, hpq]
        · exact hc j (by omega)
      refine Weak.list [((2, 0, 0), .old (2, 0, 0), Zaw (Za1 ⟨a1, a2, a3⟩)), ((3, 0, 0), .old (3, 0, 0), Zaw (Za1 ⟨a1, a2, b3⟩))] rfl (by rfl) ?_ (.old rfl (BLe.refl _) (.old rfl (BLe.refl _) .nil))
      ((repeat' first | exact TLes.nil | refine TLes.cons (TLe.eq rfl) ?_ | refine TLes.cons (TLe.int ?_) ?_); (all_goals first | ((try (simp only [Zaa, kzz, kz11, kz12, maxL, Zab] at *)); exact Zaj (by omega) (by omega)) | skip))
  · refine ⟨_, rfl, Rel.bool ?_⟩
    symm; rw [decide_eq_true_eq]
    rw [Zbl default hlen (fun j hj => hc j (by simp only [Zaa, kzz, kz11, kz12, maxL, Zab] at *; omega))]
end Go.Proofs.Ytmanpbgaihdalaa
namespace Go.Proofs.Ytmanpbgaihdalaa
open Go Dv
set_option maxRecDepth 10000
set_option linter.unusedSimpArgs false
end Go.Proofs.Ytmanpbgaihdalaa
namespace Go.Proofs.Ytmanpbgaihdalaa
open Go Dv
set_option linter.unusedSimpArgs false
def setsP (x : Ins) (p : Int) : Prop := x.op ≠ 10 ∧ x.op ≠ 12 ∧ x.dst = p
instance (x : Ins) (p : Int) : Decidable (setsP x p) := by unfold setsP; infer_instance
def alikeP (x y : Ins) : Prop := x.op = y.op ∧ 3 ≤ x.op ∧ x.op ≤ 8 ∧ ((x.a = y.a ∧ x.b = y.b) ∨ ((x.op = 3 ∨ x.op = 5 ∨ x.op = 7) ∧ x.a = y.b ∧ x.b = y.a))
instance (x y : Ins) : Decidable (alikeP x y) := by unfold alikeP; infer_instance
def keptAt (l : List Ins) (i k : Nat) : Prop := ¬ setsP (l.getD k default) (l.getD i default).a ∧ ¬ setsP (l.getD k default) (l.getD i default).b ∧ (i < k → ¬ setsP (l.getD k default) (l.getD i default).dst)
instance (l : List Ins) (i k : Nat) : Decidable (keptAt l i k) := by unfold keptAt; infer_instance
def keptP (l : List Ins) (i : Nat) : Prop := ∀ k, k < l.length → i ≤ k → keptAt l i k
instance (l : List Ins) (i : Nat) : Decidable (keptP l i) := by unfold keptP; infer_instance
theorem twoO_iff {op : Int} : twoO op = true ↔ 3 ≤ op ∧ op ≤ 8 := by
  unfold twoO; cases h : decide (2 < op) <;> simp at h ⊢ <;> omega
theorem hit_of {x : Ins} {p v : Int} : hit p ((ofD x).l, v) = true ↔ x.a = p ∨ x.b = p ∨ v = p := by
  unfold hit ofD Deed.l
  split <;> simp [or_assoc] <;> omega
theorem mlook_mem {m : Mp} {k : List Int} {v : Int} (h : Zcx m k = some v) : (k, v) ∈ m := by
  induction m with
  | nil => cases h
  | cons q r ih =>
    obtain ⟨a, b⟩ := q
    simp only [Zcx] at h
    split at h
    · rename_i e; subst e; cases h; simp
    · exact List.mem_cons_of_mem _ (ih h)
theorem mem_mlook {m : Mp} (hn : (m.map (·.1)).Nodup) {k : List Int} {v : Int} (h : (k, v) ∈ m) : Zcx m k = some v := by
  induction m with
  | nil => cases h
  | cons q r ih =>
    obtain ⟨a, b⟩ := q
    simp only [List.map_cons, List.nodup_cons] at hn
    simp only [Zcx]
    rcases List.mem_cons.1 h with e | e
    · cases e; simp
    · split
      · rename_i e2; subst e2; exact absurd (List.mem_map.2 ⟨_, e, rfl⟩) hn.1
      · exact ih hn.2 e
theorem mlook_forget {m : Mp} (hn : (m.map (·.1)).Nodup) {p : Int} {k : List Int} {v : Int} : Zcx (Zdc m p) k = some v ↔ Zcx m k = some v ∧ hit p (k, v) = false := by
  have hn2 : ((Zdc m p).map (·.1)).Nodup := by
    unfold Zdc
    exact (List.Sublist.map _ List.filter_sublist).nodup hn
  constructor
  · intro h
    have := mlook_mem h
    unfold Zdc at this
    rw [List.mem_filter] at this
    exact ⟨mem_mlook hn this.1, by simpa using this.2⟩
  · rintro ⟨h1, h2⟩
    refine mem_mlook hn2 ?_
    unfold Zdc
    rw [List.mem_filter]
    exact ⟨mlook_mem h1, by simp [h2]⟩
theorem mlook_mput {m : Mp} {k k' : List Int} {v : Int} : Zcx (mput m k v) k' = if k = k' then some v else Zcx m k' := by
  induction m with
  | nil => simp [mput, Zcx]
  | cons q r ih =>
    obtain ⟨a, b⟩ := q
    simp only [mput]
    by_cases e : a = k
    · subst e
      simp only [if_true, Zcx]
      by_cases e2 : a = k'
      · simp [e2]
      · simp [e2]
    · simp only [if_neg e, Zcx]
      by_cases e2 : a = k'
      · subst e2; simp; exact fun h => absurd h.symm e
      · simp only [if_neg e2]; exact ih
theorem mem_mput {m : Mp} {k : List Int} {v : Int} {q : List Int × Int} (h : q ∈ mput m k v) : q = (k, v) ∨ q ∈ m := by
  induction m with
  | nil => simp [mput] at h; exact .inl h
  | cons p r ih =>
    obtain ⟨a, b⟩ := p
    simp only [mput] at h
    split at h
    · rcases List.mem_cons.1 h with h | h
      · exact .inl h
      · exact .inr (List.mem_cons_of_mem _ h)
    · rcases List.mem_cons.1 h with h | h
      · exact .inr (h ▸ List.mem_cons_self)
      · rcases ih h with h | h
        · exact .inl h
        · exact .inr (List.mem_cons_of_mem _ h)
theorem mput_keys {m : Mp} {k : List Int} {v : Int} (hn : (m.map (·.1)).Nodup) : ((mput m k v).map (·.1)).Nodup := by
  induction m with
  | nil => simp [mput]
  | cons q r ih =>
    obtain ⟨a, b⟩ := q
    simp only [List.map_cons, List.nodup_cons] at hn
    simp only [mput]
    by_cases e : a = k
    · subst e; simp only [if_true, List.map_cons, List.nodup_cons]; exact hn
    · simp only [if_neg e, List.map_cons, List.nodup_cons]
      refine ⟨fun h => ?_, ih hn.2⟩
      rw [List.mem_map] at h
      obtain ⟨⟨c, d⟩, h1, h2⟩ := h
      simp only at h2; subst h2
      rcases mem_mput h1 with h3 | h3
      · cases h3; exact e rfl
      · exact hn.1 (List.mem_map.2 ⟨_, h3, rfl⟩)
theorem Zda {l : List Ins} {y : Ins} {k : Nat} (h : k < l.length) : (l ++ [y]).getD k default = l.getD k default := by rw [getD_append, if_pos h]
theorem Zey {l : List Ins} {y : Ins} : (l ++ [y]).getD l.length default = y := by rw [getD_append, if_neg (Nat.lt_irrefl _), Nat.sub_self]; rfl
theorem kept_old {l : List Ins} {y : Ins} {i : Nat} (hi : i < l.length) : keptP (l ++ [y]) i ↔ keptP l i ∧ ¬ setsP y (l.getD i default).a ∧ ¬ setsP y (l.getD i default).b ∧ ¬ setsP y (l.getD i default).dst := by
  constructor
  · intro h
    refine ⟨fun k hk hik => ?_, ?_⟩
    · have := h k (by simp; omega) hik
      unfold keptAt at this ⊢
      rw [Zda hk, Zda hi] at this; exact this
    · have := h l.length (by simp) (by omega)
      unfold keptAt at this
      rw [Zey, Zda hi] at this
      exact ⟨this.1, this.2.1, this.2.2 hi⟩
  · rintro ⟨h1, h2, h3, h4⟩ k hk hik
    unfold keptAt
    by_cases e : k < l.length
    · have := h1 k e hik
      unfold keptAt at this
      rw [Zda e, Zda hi]; exact this
    · have : k = l.length := by simp at hk; omega
      subst this
      rw [Zey, Zda hi]; exact ⟨h2, h3, fun _ => h4⟩
theorem kept_new {l : List Ins} {y : Ins} : keptP (l ++ [y]) l.length ↔ ¬ setsP y y.a ∧ ¬ setsP y y.b := by
  constructor
  · intro h
    have := h l.length (by simp) (Nat.le_refl _)
    unfold keptAt at this
    rw [Zey] at this; exact ⟨this.1, this.2.1⟩
  · rintro ⟨h1, h2⟩ k hk hik
    have : k = l.length := by simp at hk; omega
    subst this
    unfold keptAt
    rw [Zey]; exact ⟨h1, h2, fun h => absurd h (Nat.lt_irrefl _)⟩
structure PInv (l : List Ins) (m : Mp) : Prop where
  nd : (m.map (·.1)).Nodup
  fwd : ∀ key v, Zcx m key = some v → ∃ k, k < l.length ∧ keptP l k ∧ twoO (l.getD k default).op = true ∧ (ofD (l.getD k default)).l = key ∧ (l.getD k default).dst = v
  bwd : ∀ k, k < l.length → keptP l k → twoO (l.getD k default).op = true → Zcx m (ofD (l.getD k default)).l = some (l.getD k default).dst
theorem PInv.step {l : List Ins} {m : Mp} (h : PInv l m) (x : Ins) : PInv (l ++ [sameY m x]) (sameM m x) := by
  generalize hy : sameY m x = y
  have hset : ∀ p, setsP y p ↔ ¬ (y.op = 10 ∨ y.op = 12) ∧ y.dst = p := fun p => by unfold setsP; omega
  have htwo : twoO y.op = true → y = x ∧ twoO x.op = true ∧ Zcx m (ofD x).l = none := fun ht => by
    unfold sameY at hy
    split at hy
    · subst hy; simp [twoO] at ht
    · rename_i hh
      subst hy
      refine ⟨rfl, ht, ?_⟩
      unfold sameHit at hh
      rw [ht] at hh
      cases hm : Zcx m (ofD x).l with
      | none => rfl
      | some v => rw [hm] at hh; simp at hh
  unfold sameM
  rw [hy]
  by_cases h10 : y.op = 10 ∨ y.op = 12
  · rw [if_pos h10]
    have hno : ∀ p, ¬ setsP y p := fun p hp => ((hset p).1 hp).1 h10
    refine ⟨h.nd, fun key v hv => ?_, fun k hk hkp ht => ?_⟩
    · obtain ⟨k, h1, h2, h3, h4, h5⟩ := h.fwd key v hv
      exact ⟨k, by simp; omega, (kept_old h1).2 ⟨h2, hno _, hno _, hno _⟩, by rw [Zda h1]; exact h3, by rw [Zda h1]; exact h4, by rw [Zda h1]; exact h5⟩
    · by_cases e : k < l.length
      · rw [Zda e] at ht ⊢
        exact h.bwd k e ((kept_old e).1 hkp).1 ht
      · have : k = l.length := by simp at hk; omega
        subst this
        rw [Zey, twoO_iff] at ht
        omega
  · rw [if_neg h10]
    have hset2 : ∀ p, setsP y p ↔ y.dst = p := fun p => by rw [hset]; exact ⟨fun a => a.2, fun a => ⟨h10, a⟩⟩
    have hnf : ((Zdc m y.dst).map (·.1)).Nodup := by
      unfold Zdc; exact (List.Sublist.map _ List.filter_sublist).nodup h.nd
    have old1 : ∀ key v, Zcx (Zdc m y.dst) key = some v → ∃ k, k < (l ++ [y]).length ∧ keptP (l ++ [y]) k ∧ twoO ((l ++ [y]).getD k default).op = true ∧ (ofD ((l ++ [y]).getD k default)).l = key ∧ ((l ++ [y]).getD k default).dst = v := fun key v hv => by
      obtain ⟨h0, hh⟩ := (mlook_forget h.nd).1 hv
      obtain ⟨k, h1, h2, h3, h4, h5⟩ := h.fwd key v h0
      have h6 : ¬ ((l.getD k default).a = y.dst ∨ (l.getD k default).b = y.dst ∨ v = y.dst) := fun e => by
        have := hit_of.2 e
        rw [h4, hh] at this; cases this
      exact ⟨k, by simp; omega, (kept_old h1).2 ⟨h2, fun e => h6 (.inl ((hset2 _).1 e).symm), fun e => h6 (.inr (.inl ((hset2 _).1 e).symm)), fun e => h6 (.inr (.inr (by rw [← h5]; exact ((hset2 _).1 e).symm)))⟩, by rw [Zda h1]; exact h3, by rw [Zda h1]; exact h4, by rw [Zda h1]; exact h5⟩
    have old2 : ∀ k, k < l.length → keptP (l ++ [y]) k → twoO (l.getD k default).op = true → Zcx m (ofD (l.getD k default)).l = some (l.getD k default).dst ∧ Zcx (Zdc m y.dst) (ofD (l.getD k default)).l = some (l.getD k default).dst := fun k e hkp ht => by
      obtain ⟨h1, h2, h3, h4⟩ := (kept_old e).1 hkp
      have h5 := h.bwd k e h1 ht
      refine ⟨h5, (mlook_forget h.nd).2 ⟨h5, ?_⟩⟩
      rw [Bool.eq_false_iff]
      intro hh
      rw [hset2] at h2 h3 h4
      rcases hit_of.1 hh with e1 | e1 | e1
      · exact h2 e1.symm
      · exact h3 e1.symm
      · exact h4 e1.symm
    by_cases hput : sameOk m x = true ∧ y.dst ≠ (ofD x).a ∧ y.dst ≠ (ofD x).b
    · rw [if_pos hput]
      obtain ⟨hok, hna, hnb⟩ := hput
      unfold sameOk at hok
      rw [Bool.and_eq_true] at hok
      have hnone : Zcx m (ofD x).l = none := by
        cases hm : Zcx m (ofD x).l with
        | none => rfl
        | some v => rw [hm] at hok; simp at hok
      have hyx : y = x := by
        unfold sameY sameHit at hy
        rw [hok.1, hnone] at hy; simpa using hy.symm
      subst hyx
      have hab : y.dst ≠ y.a ∧ y.dst ≠ y.b := by
        unfold ofD at hna hnb
        split at hna <;> simp_all
      refine ⟨mput_keys hnf, fun key v hv => ?_, fun k hk hkp ht => ?_⟩
      · rw [mlook_mput] at hv
        split at hv
        · rename_i e
          cases hv
          exact ⟨l.length, by simp, kept_new.2 ⟨fun e => hab.1 ((hset2 _).1 e), fun e => hab.2 ((hset2 _).1 e)⟩, by rw [Zey]; exact hok.1, by rw [Zey]; exact e, by rw [Zey]⟩
        · exact old1 key v hv
      · by_cases e : k < l.length
        · rw [Zda e] at ht ⊢
          obtain ⟨a1, a2⟩ := old2 k e hkp ht
          rw [mlook_mput, if_neg (fun e2 => by rw [← e2, hnone] at a1; cases a1)]
          exact a2
        · have : k = l.length := by simp at hk; omega
          subst this
          rw [Zey, mlook_mput, if_pos rfl]
    · rw [if_neg hput]
      refine ⟨hnf, old1, fun k hk hkp ht => ?_⟩
      by_cases e : k < l.length
      · rw [Zda e] at ht ⊢
        exact (old2 k e hkp ht).2
      · exfalso
        have : k = l.length := by simp at hk; omega
        subst this
        rw [Zey] at ht
        obtain ⟨rfl, h1, h2⟩ := htwo ht
        obtain ⟨h3, h4⟩ := kept_new.1 hkp
        rw [hset2] at h3 h4
        refine hput ⟨by unfold sameOk; rw [h1, h2]; rfl, ?_, ?_⟩
        · unfold ofD; split <;> simp <;> first | exact h4 | exact h3
        · unfold ofD; split <;> simp <;> first | exact h3 | exact h4
theorem PInv.nil : PInv [] [] := ⟨List.nodup_nil, (fun _ _ h => by cases h), (fun k hk => by simp at hk)⟩
end Go.Proofs.Ytmanpbgaihdalaa
namespace Go.Proofs.Ytmanpbgaihdalaa
open Go Dv
set_option maxRecDepth 10000
set_option linter.unusedSimpArgs false
end Go.Proofs.Ytmanpbgaihdalaa
namespace Go.Proofs.Ytmanpbgaihdalaa
open Go Dv
set_option maxRecDepth 10000
set_option linter.unusedSimpArgs false
end Go.Proofs.Ytmanpbgaihdalaa
namespace Go.Proofs.Ytmanpbgaihdalaa
open Go Dv
set_option maxRecDepth 10000
set_option linter.unusedSimpArgs false
end Go.Proofs.Ytmanpbgaihdalaa
namespace Go.Proofs.Ytmanpbgaihdalaa
open Go Dv
set_option maxRecDepth 10000
set_option linter.unusedSimpArgs false
end Go.Proofs.Ytmanpbgaihdalaa
namespace Go.Proofs.Ytmanpbgaihdalaa
open Go Dv
set_option maxRecDepth 10000
set_option linter.unusedSimpArgs false
def blkG (l : List Func) (p : Nat → Bool) : Zan := famC 1000 (fun j z => bif Nat.beq z 0 && (Nat.blt j l.length && p j) then some (blkR j (l.getD j default).blocks (l.getD j default).blocks.length (fun _ => .any)) else none)
def insG (l : List Func) (p : Nat → Nat → Bool) : Zan := famC 1001 (fun j q => bif (Nat.blt j l.length && Nat.blt q (l.getD j default).blocks.length) && p j q then some (insR ((l.getD j default).blocks.getD q default).ins) else none)
def Zbi (l : List Func) (p : Nat → Bool) (r : Nat → Nat → Bool) : Zan := orH (blkG l p) (insG l r)
theorem blkG_some {l : List Func} {p : Nat → Bool} {j : Dv.Id} {b : Zam} (h : blkG l p j = some b) : ∃ i, j = (1000, i, 0) ∧ i < l.length ∧ p i = true ∧ b = blkR i (l.getD i default).blocks (l.getD i default).blocks.length (fun _ => .any) := by
  obtain ⟨a, z, rfl, h3⟩ := Ze8 h
  cases e : (Nat.beq z 0 && (Nat.blt a l.length && p a)) with
  | false => rw [e] at h3; cases h3
  | true =>
    rw [e] at h3
    rw [Bool.and_eq_true, Bool.and_eq_true, Nat.blt_eq] at e
    have := Nat.eq_of_beq_eq_true e.1
    subst this
    exact ⟨a, rfl, e.2.1, e.2.2, (Option.some.inj h3).symm⟩
theorem blkG_at {l : List Func} {p : Nat → Bool} {i : Nat} (h : i < l.length) (hp : p i = true) : blkG l p (1000, i, 0) = some (blkR i (l.getD i default).blocks (l.getD i default).blocks.length (fun _ => .any)) := by
  show (bif (Nat.beq 0 0 && (Nat.blt i l.length && p i)) then _ else none) = _
  have : (Nat.beq 0 0 && (Nat.blt i l.length && p i)) = true := by
    rw [Bool.and_eq_true, Bool.and_eq_true, Nat.blt_eq]; exact ⟨rfl, h, hp⟩
  rw [this]; rfl
theorem insG_some {l : List Func} {p : Nat → Nat → Bool} {j : Dv.Id} {b : Zam} (h : insG l p j = some b) : ∃ i q, j = (1001, i, q) ∧ i < l.length ∧ q < (l.getD i default).blocks.length ∧ p i q = true ∧ b = insR ((l.getD i default).blocks.getD q default).ins := by
  obtain ⟨a, q, rfl, h3⟩ := Ze8 h
  cases e : ((Nat.blt a l.length && Nat.blt q (l.getD a default).blocks.length) && p a q) with
  | false => rw [e] at h3; cases h3
  | true =>
    rw [e] at h3
    rw [Bool.and_eq_true, Bool.and_eq_true, Nat.blt_eq, Nat.blt_eq] at e
    exact ⟨a, q, rfl, e.1.1, e.1.2, e.2, (Option.some.inj h3).symm⟩
theorem insG_at {l : List Func} {p : Nat → Nat → Bool} {i q : Nat} (h : i < l.length) (hq : q < (l.getD i default).blocks.length) (hp : p i q = true) : insG l p (1001, i, q) = some (insR ((l.getD i default).blocks.getD q default).ins) := by
  show (bif ((Nat.blt i l.length && Nat.blt q (l.getD i default).blocks.length) && p i q) then _ else none) = _
  have : ((Nat.blt i l.length && Nat.blt q (l.getD i default).blocks.length) && p i q) = true := by
    rw [Bool.and_eq_true, Bool.and_eq_true, Nat.blt_eq, Nat.blt_eq]; exact ⟨⟨h, hq⟩, hp⟩
  rw [this]; rfl
theorem Zbu {l : List Func} {p : Nat → Bool} {r : Nat → Nat → Bool} {i : Nat} (h : i < l.length) (hp : p i = true) : Zbi l p r (1000, i, 0) = some (blkR i (l.getD i default).blocks (l.getD i default).blocks.length (fun _ => .any)) := by
  unfold Zbi orH; rw [blkG_at h hp]
theorem Zbp {l : List Func} {p : Nat → Bool} {r : Nat → Nat → Bool} {i q : Nat} (h : i < l.length) (hq : q < (l.getD i default).blocks.length) (hp : r i q = true) : Zbi l p r (1001, i, q) = some (insR ((l.getD i default).blocks.getD q default).ins) := by
  show insG l r (1001, i, q) = _
  exact insG_at h hq hp
theorem Zb2 {l : List Func} {p : Nat → Bool} {r : Nat → Nat → Bool} {j : Dv.Id} {b : Zam} (h : Zbi l p r j = some b) :
    (∃ i, j = (1000, i, 0) ∧ i < l.length ∧ p i = true ∧ b = blkR i (l.getD i default).blocks (l.getD i default).blocks.length (fun _ => .any)) ∨
    ∃ i q, j = (1001, i, q) ∧ i < l.length ∧ q < (l.getD i default).blocks.length ∧ r i q = true ∧ b = insR ((l.getD i default).blocks.getD q default).ins := by
  rcases Zfn h with e | ⟨_, e⟩
  · exact .inl (blkG_some e)
  · exact .inr (insG_some e)
theorem copyH_dom {l : List Func} {i : Dv.Id} (h : (copyH l i).isSome = true) : i = (900, 0, 0) ∨ (∃ j, i = (1000, j, 0)) ∨ ∃ j q, i = (1001, j, q) := by
  cases e : copyH l i with
  | none => rw [e] at h; cases h
  | some b =>
    rcases Zfn e with e | ⟨_, e⟩
    · simp only [Za2] at e
      cases e2 : idEq (900, 0, 0) i with
      | false => rw [e2] at e; cases e
      | true => have := Za0.1 e2; exact .inl this.symm
    · rcases Zcb e with ⟨i, rfl, _⟩ | ⟨i, q, rfl, _⟩
      · exact .inr (.inl ⟨i, rfl⟩)
      · exact .inr (.inr ⟨i, q, rfl⟩)
def pO (i j : Nat) : Bool := Nat.ble i j
def rO (i j _q : Nat) : Bool := Nat.ble i j
def pI (i j : Nat) : Bool := Nat.blt i j
def rI (i k j q : Nat) : Bool := Nat.blt i j || (Nat.beq j i && Nat.ble k q)
theorem Zel {i k j q : Nat} : rI i k j q = true ↔ i < j ∨ (j = i ∧ k ≤ q) := by
  unfold rI; rw [Bool.or_eq_true, Bool.and_eq_true, Nat.blt_eq, Nat.ble_eq]; simp
theorem treeG_hd {l : List Func} {p : Nat → Bool} {r : Nat → Nat → Bool} {S : List (Dv.Id × Option Dv.Id)} {i : Dv.Id} (hS : ∀ a b, srcL S (1000, a, b) ≠ some i ∧ srcL S (1001, a, b) ≠ some i) : ∀ j, (Zbi l p r j).isSome = true → srcL S j ≠ some i := by
  intro j h
  cases e : Zbi l p r j with
  | none => rw [e] at h; cases h
  | some b =>
    rcases Zb2 e with ⟨a, rfl, _⟩ | ⟨a, q, rfl, _⟩
    · exact (hS a 0).1
    · exact (hS a q).2
abbrev ownI (i : Nat) (l : List Zbd) (q : Nat) : AV := .rs (1001, i, q) 7 0 (l.getD q default).ins.length
theorem orH_right {L : List (Dv.Id × Zam)} {F : Zan} {j : Dv.Id} {b : Zam} (hn : Za2 L j = none) (e : F j = some b) : orH (Za2 L) F j = some b := by unfold orH; rw [hn]; exact e
theorem map_sel (ρ : Dv.Id → Option Dv.Id) (b : Bool) (x y : AV) : Zbo ρ (sel b x y) = sel b (Zbo ρ x) (Zbo ρ y) := by cases b <;> rfl
theorem keepA {src : Dv.Id → Option Dv.Id} {h h' : Zan} {fs : List Func} {i q n : Nat} {b b2 : Zam} {x : AV} (hx : immD x = true) (h1 : i < q → h' (1000, q, 0) = some b) (hs : src (1000, q, 0) = some (1000, q, 0)) (h2 : h' (901, 0, 0) = some b2) (hs2 : src (901, 0, 0) = some (901, 0, 0)) :
    GV src h h' (sel (Nat.blt q i) x (sel (Nat.beq q i) (.rs (901, 0, 0) 14 0 n) (mem1 fs q))) (sel (Nat.blt q i) x (sel (Nat.beq q i) (.rs (901, 0, 0) 14 0 n) (mem1 fs q))) := by
  by_cases e1 : q < i
  · exact .cc (Zat e1) (Zat e1) (.imm hx)
  · have e1' := Nat.le_of_not_lt e1
    by_cases e : q = i
    · subst e
      exact .cc ((Za9 e1').trans Zch) ((Za9 e1').trans Zch) (.rs h2 hs2 rfl rfl)
    · exact .cc ((Za9 e1').trans (Zd8 e)) ((Za9 e1').trans (Zd8 e)) (.rs (h1 (by omega)) hs rfl rfl)
theorem keepFG {src : Dv.Id → Option Dv.Id} {h h' : Zan} {fs : List Func} {i k k' : Nat} (hk : k ≤ k') (hh1 : ∀ p, p < fs.length → i < p → h (1000, p, 0) = some (blkR p (fs.getD p default).blocks (fs.getD p default).blocks.length (fun _ => .any)))
    (hh2 : ∀ p q, p < fs.length → q < (fs.getD p default).blocks.length → rI i k p q = true → h (1001, p, q) = some (insR ((fs.getD p default).blocks.getD q default).ins))
    (hh' : ∀ a b, h' (1000, a, b) = Zbi fs (pI i) (rI i k') (1000, a, b) ∧ h' (1001, a, b) = Zbi fs (pI i) (rI i k') (1001, a, b)) (hs : ∀ a b, src (1000, a, b) = some (1000, a, b) ∧ src (1001, a, b) = some (1001, a, b)) :
    ∀ j b, Zbi fs (pI i) (rI i k') j = some b → HOk src h h' j b := by
  intro j b e
  rcases Zb2 e with ⟨p, rfl, hp, h2, rfl⟩ | ⟨p, q, rfl, hp, hq, h2, rfl⟩
  · have h2' : i < p := by unfold pI at h2; rw [Nat.blt_eq] at h2; exact h2
    refine HOk.mk (hs p 0).1 (hh1 p hp h2') (Zcl (fun q hq => ?_))
    have hi := Zbp (p := pI i) (r := rI i k') hp hq (Zel.2 (.inl h2'))
    exact .cc (Zat hq) (Zat hq) (.rs ((hh' p q).2.trans hi) (hs p q).2 rfl rfl)
  · have h2' := Zel.1 h2
    exact HOk.mk (hs p q).2 (hh2 p q hp hq (Zel.2 (by omega))) (Zc2 _)
theorem keepF {src : Dv.Id → Option Dv.Id} {h h' : Zan} {fs : List Func} {i k k' : Nat} (hk : k ≤ k') (hh : ∀ a b, h (1000, a, b) = Zbi fs (pI i) (rI i k) (1000, a, b) ∧ h (1001, a, b) = Zbi fs (pI i) (rI i k) (1001, a, b))
    (hh' : ∀ a b, h' (1000, a, b) = Zbi fs (pI i) (rI i k') (1000, a, b) ∧ h' (1001, a, b) = Zbi fs (pI i) (rI i k') (1001, a, b)) (hs : ∀ a b, src (1000, a, b) = some (1000, a, b) ∧ src (1001, a, b) = some (1001, a, b)) :
    ∀ j b, Zbi fs (pI i) (rI i k') j = some b → HOk src h h' j b :=
  keepFG hk (fun p hp h2 => (hh p 0).1.trans (Zbu hp (by unfold pI; rw [Nat.blt_eq]; exact h2))) (fun p q hp hq h2 => (hh p q).2.trans (Zbp hp hq h2)) hh' hs
end Go.Proofs.Ytmanpbgaihdalaa
namespace Go.Proofs.Ytmanpbgaihdalaa
open Go Dv
set_option maxRecDepth 10000
set_option linter.unusedSimpArgs false
end Go.Proofs.Ytmanpbgaihdalaa
namespace Go.Proofs.Ytmanpbgaihdalaa
open Go Dv
set_option maxRecDepth 10000
set_option linter.unusedSimpArgs false
def insCall (x : Ins) (k : Int) : Bool := bif decide (x.op = 11) then decide (x.f = k) else false
def endCall (b : Zbd) (k : Int) : Bool := bif decide (b.fin.kind = 4) then decide (b.fin.f = k) else false
def blkCall (b : Zbd) (k : Int) : Bool := (b.ins.any fun x => insCall x k) || endCall b k
def doesCall (f : Func) (k : Int) : Bool := f.blocks.any fun b => blkCall b k
end Go.Proofs.Ytmanpbgaihdalaa
namespace Go.Proofs.Ytmanpbgaihdalaa
open Go Dv
set_option maxRecDepth 10000
set_option linter.unusedSimpArgs false
def ofK (m : Zay) (n : Int) (k : Nat) : Bool := bif inn n m.funcs.length then doesCall (m.funcs.getD n.toNat default) k else false
def ofN (m : Zay) (n : Int) (j : Nat) : List Nat := (List.range j).filter fun k => ofK m n k
def ofL (m : Zay) (n : Int) : List Int := (ofN m n m.funcs.length).map Int.ofNat
end Go.Proofs.Ytmanpbgaihdalaa
namespace Go.Proofs.Ytmanpbgaihdalaa
open Go Dv
set_option maxRecDepth 10000
set_option linter.unusedSimpArgs false
theorem count_set_false {l : List Bool} {i : Nat} (hi : i < l.length) (h : l.getD i false = true) : (l.set i false).count true + 1 = l.count true := by
  have e : l[i] = true := by simpa [List.getD_eq_getElem?_getD, hi] using h
  have := List.count_set (a := false) (b := true) (l := l) hi
  rw [this, e]
  simp
  have : 0 < l.count true := List.count_pos_iff.2 (by rw [← e]; exact List.getElem_mem hi)
  omega
theorem count_members : ∀ (O : List Int) (R : List Bool), O.Nodup → (∀ m ∈ O, 0 ≤ m ∧ m < R.length) → (∀ i : Nat, R.getD i false = true ↔ (i : Int) ∈ O) → R.count true = O.length
  | [], R, _, _, h => by
      rw [List.length_nil, List.count_eq_zero]
      intro hc
      obtain ⟨i, hi, e⟩ := List.getElem_of_mem hc
      have := (h i).1 (by rw [Zbm false hi, e])
      cases this
  | a :: O, R, hn, hr, h => by
      have ha := hr a (by simp)
      have hra : R.getD a.toNat false = true := (h a.toNat).2 (by rw [Int.toNat_of_nonneg ha.1]; simp)
      have hc := count_set_false (l := R) (i := a.toNat) (by omega) hra
      rw [List.nodup_cons] at hn
      have ih := count_members O (R.set a.toNat false) hn.2 (fun m hm => by rw [List.length_set]; exact hr m (by simp [hm])) (fun i => by
        rw [getD_set]
        by_cases e : a.toNat = i
        · rw [if_pos ⟨e, by omega⟩]
          constructor
          · intro h; cases h
          · intro hm
            have : a = (i : Int) := by omega
            rw [← this] at hm; exact absurd hm hn.1
        · rw [if_neg (fun x => e x.1), h]
          simp only [List.mem_cons]
          constructor
          · rintro (h | h)
            · exact absurd (by omega) e
            · exact h
          · exact .inr)
      rw [List.length_cons, ← hc, ih]
theorem few {n : Nat} {L : List Int} (h : L.Nodup) (hr : ∀ x ∈ L, 0 ≤ x ∧ x < n) : L.length ≤ n := by
  have := count_members L ((List.range n).map fun i : Nat => decide ((i : Int) ∈ L)) h (fun x hx => by have := hr x hx; simp; omega) (fun i => by
    rw [List.getD_eq_getElem?_getD, List.getElem?_map]
    by_cases hi : i < n
    · rw [List.getElem?_range hi]; simp
    · rw [List.getElem?_eq_none (by simpa using hi)]
      simp only [Option.map_none, Option.getD_none]
      constructor
      · intro e; cases e
      · intro hm; have := hr _ hm; omega)
  rw [← this]
  have h2 := List.count_le_length (a := true) (l := (List.range n).map fun i : Nat => decide ((i : Int) ∈ L))
  simpa using h2
def addN (o : List Int) (k : Int) : List Int := if k ∈ o then o else o ++ [k]
def addAll (o l : List Int) : List Int := l.foldl addN o
def toGo (m : Zay) : Nat → Nat → List Int → List Int
  | 0, _, o => o
  | f + 1, i, o => if i < o.length then toGo m f (i + 1) (addAll o (ofL m (o.getD i 0))) else o
def toL (m : Zay) (n : Int) : List Int := toGo m (m.funcs.length + 1) 0 (ofL m n)
structure GoodL (m : Zay) (o : List Int) : Prop where
  nd : o.Nodup
  rg : ∀ x ∈ o, 0 ≤ x ∧ x < m.funcs.length
theorem ofL_mem {m : Zay} {n x : Int} (h : x ∈ ofL m n) : 0 ≤ x ∧ x < m.funcs.length := by
  unfold ofL ofN at h
  obtain ⟨k, hk, rfl⟩ := List.mem_map.1 h
  have := (List.mem_filter.1 hk).1
  rw [List.mem_range] at this
  constructor
  · exact Int.natCast_nonneg k
  · exact Int.ofNat_lt.2 this
theorem ofL_good (m : Zay) (n : Int) : GoodL m (ofL m n) := by
  refine ⟨?_, fun x hx => ofL_mem hx⟩
  unfold ofL ofN
  have h1 : List.Pairwise (· < ·) (List.range m.funcs.length) := List.pairwise_lt_range
  have h2 := h1.filter (fun k => ofK m n k)
  refine (List.pairwise_map.2 (h2.imp ?_))
  intro a b hab e
  have := Int.ofNat.inj e
  omega
theorem addN_good {m : Zay} {o : List Int} {k : Int} (h : GoodL m o) (hk : 0 ≤ k ∧ k < m.funcs.length) : GoodL m (addN o k) := by
  unfold addN
  split
  · exact h
  · rename_i hn
    refine ⟨?_, fun x hx => ?_⟩
    · rw [List.nodup_append]
      exact ⟨h.nd, by simp, fun a ha b hb e => by rw [List.mem_singleton] at hb; subst hb; subst e; exact hn ha⟩
    · rcases List.mem_append.1 hx with e | e
      · exact h.rg x e
      · rw [List.mem_singleton] at e; subst e; exact hk
theorem addAll_good {m : Zay} : ∀ {l o : List Int}, GoodL m o → (∀ x ∈ l, 0 ≤ x ∧ x < m.funcs.length) → GoodL m (addAll o l)
  | [], o, h, _ => h
  | k :: l, o, h, hl => addAll_good (l := l) (addN_good h (hl k (by simp))) (fun x hx => hl x (by simp [hx]))
theorem GoodL.le {m : Zay} {o : List Int} (h : GoodL m o) : o.length ≤ m.funcs.length := few h.nd h.rg
theorem addN_len (o : List Int) (k : Int) : o.length ≤ (addN o k).length := by unfold addN; split <;> simp
end Go.Proofs.Ytmanpbgaihdalaa
namespace Go.Proofs.Ytmanpbgaihdalaa
open Go Dv
set_option maxRecDepth 10000
set_option linter.unusedSimpArgs false
theorem toGo_end {m : Zay} {f i : Nat} {o : List Int} (h : ¬ i < o.length) : toGo m f i o = o := by
  cases f with
  | zero => rfl
  | succ f => simp only [toGo]; rw [if_neg h]
theorem toGo_step {m : Zay} {f i : Nat} {o : List Int} (h : i < o.length) (hf : 0 < f) : toGo m f i o = toGo m (f - 1) (i + 1) (addAll o (ofL m (o.getD i 0))) := by
  obtain ⟨g, rfl⟩ : ∃ g, f = g + 1 := ⟨f - 1, by omega⟩
  simp only [toGo, Nat.add_sub_cancel]; rw [if_pos h]
end Go.Proofs.Ytmanpbgaihdalaa
namespace Go.Proofs.Ytmanpbgaihdalaa
open Go Dv
set_option maxRecDepth 10000
set_option linter.unusedSimpArgs false
noncomputable def clrM (m : Zay) : Zay := ⟨m.funcs.map Zbj⟩
noncomputable def toM (m : Zay) : List Int := toL (clrM m) 0
noncomputable def Zc4 (m : Zay) : List Bool := (List.range m.funcs.length).map fun n : Nat => bif decide ((n : Int) = 0) then true else decide ((n : Int) ∈ toM m)
def renI (S : List Bool) (x : Ins) : Ins := if x.op = 11 then { x with f := numB S x.f.toNat } else x
def renE (S : List Bool) (e : End) : End := if e.kind = 4 then { e with f := numB S e.f.toNat } else e
def renC (S : List Bool) (b : Zbd) : Zbd := { b with ins := b.ins.map (renI S), fin := renE S b.fin }
def renF (S : List Bool) (f : Func) : Func := { f with blocks := f.blocks.map (renC S) }
noncomputable def ref13M (m : Zay) : Zay := ⟨(Zav (Zc4 m) m.funcs.length).map fun n => renF (Zc4 m) ((clrM m).funcs.getD n default)⟩
theorem clrM_len (m : Zay) : (clrM m).funcs.length = m.funcs.length := by simp [clrM]
theorem clrM_at {m : Zay} {k : Nat} (h : k < m.funcs.length) : (clrM m).funcs.getD k default = Zbj (m.funcs.getD k default) := by
  unfold clrM
  simp only
  rw [List.getD_eq_getElem?_getD, List.getElem?_map, List.getElem?_eq_getElem h, Zbm default h]; rfl
theorem stayL_len (m : Zay) : (Zc4 m).length = m.funcs.length := by simp [Zc4]
theorem stayL_at {m : Zay} {k : Nat} (h : k < m.funcs.length) : (Zc4 m).getD k false = bif decide ((k : Int) = 0) then true else decide ((k : Int) ∈ toM m) := by
  unfold Zc4; rw [List.getD_eq_getElem?_getD, List.getElem?_map, List.getElem?_range h]; rfl
theorem GVs_app2 {src : Dv.Id → Option Dv.Id} {h h' : Zan} {k q : Nat} {f g : Nat → List AV} {ys : List AV} {K : List AV → List AV} (hq : q < k + 1) (h1 : q < k → GVs src h h' (K (f q)) ys) (h2 : q = k → GVs src h h' (K (g 0)) ys) : GVs src h h' (K (appR k f g q)) ys := by
  by_cases e : q < k
  · have : appR k f g q = f q := by unfold appR; rw [show Nat.blt q k = true from by rw [Nat.blt_eq]; exact e]; rfl
    rw [this]; exact h1 e
  · have e2 : q = k := by omega
    subst e2
    have : appR q f g q = g 0 := by unfold appR; rw [show Nat.blt q q = false from by rw [Bool.eq_false_iff]; intro h; rw [Nat.blt_eq] at h; omega, Nat.sub_self]; rfl
    rw [this]; exact h2 rfl
theorem ren_ins (R : List Bool) (b : Zbd) : (renN R b).ins = b.ins ∧ (renN R b).fin.kind = b.fin.kind ∧ (renN R b).fin.f = b.fin.f := by
  unfold renN
  have h1 : ∀ c : Zbd, (ren1 R c).ins = c.ins ∧ (ren1 R c).fin.kind = c.fin.kind ∧ (ren1 R c).fin.f = c.fin.f := fun c => by unfold ren1; split <;> exact ⟨rfl, rfl, rfl⟩
  have h2 : ∀ c : Zbd, (ren2 R c).ins = c.ins ∧ (ren2 R c).fin.kind = c.fin.kind ∧ (ren2 R c).fin.f = c.fin.f := fun c => by unfold ren2; split <;> exact ⟨rfl, rfl, rfl⟩
  have h3 : ∀ c : Zbd, (ren3 R c).ins = c.ins ∧ (ren3 R c).fin.kind = c.fin.kind ∧ (ren3 R c).fin.f = c.fin.f := fun c => by unfold ren3; split <;> exact ⟨rfl, rfl, rfl⟩
  obtain ⟨a1, a2, a3⟩ := h1 b
  obtain ⟨b1, b2, b3⟩ := h2 (ren1 R b)
  obtain ⟨c1, c2, c3⟩ := h3 (ren2 R (ren1 R b))
  exact ⟨by rw [c1, b1, a1], by rw [c2, b2, a2], by rw [c3, b3, a3]⟩
theorem ref13_from {f : Func} {i : Nat} (hi : i < (Zbj f).blocks.length) : ∃ n, n < f.blocks.length ∧ ((Zbj f).blocks.getD i default).ins = (f.blocks.getD n default).ins ∧ ((Zbj f).blocks.getD i default).fin.kind = (f.blocks.getD n default).fin.kind ∧ ((Zbj f).blocks.getD i default).fin.f = (f.blocks.getD n default).fin.f := by
  unfold Zbj at hi ⊢
  split
  · rename_i hc
    rw [if_pos hc] at hi
    simp only at hi ⊢
    rw [Zbm default hi]
    have hm := List.getElem_mem hi
    unfold Zdb at hm
    obtain ⟨n, hn, e⟩ := List.mem_map.1 hm
    have hn2 := (List.mem_filter.1 hn).1
    rw [List.mem_range] at hn2
    refine ⟨n, hn2, ?_⟩
    have e2 : (Zdb f (Fl.Zbc f) f.blocks.length)[i] = renN (Fl.Zbc f) (f.blocks.getD n default) := e.symm
    rw [e2]
    exact ren_ins _ _
  · rename_i hc
    rw [if_neg hc] at hi
    exact ⟨i, hi, rfl, rfl, rfl⟩
end Go.Proofs.Ytmanpbgaihdalaa
namespace Go.Proofs.Ytmanpbgaihdalaa
open Go Dv
set_option maxRecDepth 10000
set_option linter.unusedSimpArgs false
def Zc0 (i : Nat) (g : Func) : Zan := orH (Za2 [((1000, i, 0), blkR i g.blocks g.blocks.length (fun _ => .any))]) (famC 1001 (fun a q => bif Nat.beq a i && Nat.blt q g.blocks.length then some (insR (g.blocks.getD q default).ins) else none))
theorem many_eq (b : Zbd) : manyN b = Zd5 b := by
  unfold manyN Zd5 goalsL
  by_cases h2 : b.fin.kind = 2
  · simp [h2]
  · by_cases h3 : b.fin.kind = 3
    · simp [h3]
    · by_cases h4 : b.fin.kind = 4
      · simp [h4]
      · simp [h2, h3, h4]
theorem fit_ok (f : Func) (R : List Bool) (n : Nat) : fitAt f R n = okAt f R n := by
  unfold fitAt okAt; rw [many_eq]
theorem fits_iff {f : Func} : fitsB f (Fl.Zbc f) = true ↔ (allOk f (Fl.Zbc f) = true ∧ 0 < (Zdb f (Fl.Zbc f) f.blocks.length).length) := by
  have e : ((List.range f.blocks.length).all fun n => fitAt f (Fl.Zbc f) n) = allOk f (Fl.Zbc f) := by
    unfold allOk; congr 1; funext n; exact fit_ok f _ n
  unfold fitsB
  rw [e, Bool.and_eq_true, decide_eq_true_eq]
  refine and_congr_right fun _ => ⟨fun h => ?_, fun h => ?_⟩
  · have h0 : (Fl.Zbc f).getD 0 false = true := (Fl.Zcc f 0).2 (.zero h)
    unfold Zdb
    rw [List.length_map]
    have : 0 ∈ Zav (Fl.Zbc f) f.blocks.length := by
      unfold Zav; rw [List.mem_filter, List.mem_range]; exact ⟨h, h0⟩
    exact List.length_pos_of_mem this
  · have := keptB_le f (Fl.Zbc f) f.blocks.length
    omega
theorem ref13_no {f : Func} (h : fitsB f (Fl.Zbc f) = false) : Zbj f = f := by
  unfold Zbj; rw [if_neg (fun h2 => by rw [fits_iff.2 h2] at h; cases h)]
theorem ref13_yes {f : Func} (h : fitsB f (Fl.Zbc f) = true) : Zbj f = { f with blocks := Zdb f (Fl.Zbc f) f.blocks.length } := by
  unfold Zbj; rw [if_pos (fits_iff.1 h)]
theorem Zcr {R : List Bool} {k q : Nat} (h : q < (Zav R k).length) : (Zav R k).getD q 0 < k := by
  rw [Zbm 0 h]
  have := List.getElem_mem h
  unfold Zav at this
  have h2 := (List.mem_filter.1 this).1
  rw [List.mem_range] at h2
  exact h2
theorem keptN_le (R : List Bool) (k : Nat) : (Zav R k).length ≤ k := by
  unfold Zav
  have := List.length_filter_le (fun n => R.getD n false) (List.range k)
  rw [List.length_range] at this
  exact this
theorem keptN_inj {R : List Bool} {k a b : Nat} (ha : a < (Zav R k).length) (hb : b < (Zav R k).length) (e : (Zav R k).getD a 0 = (Zav R k).getD b 0) : a = b := by
  rw [Zbm 0 ha, Zbm 0 hb] at e
  exact (List.getElem_inj (List.Pairwise.filter _ List.nodup_range)).1 e
theorem kept_lo {R : List Bool} {k q : Nat} (hr : R.getD k false = true) (h : q < (Zav R k).length) : (Zav R (k + 1)).getD q 0 = (Zav R k).getD q 0 := by
  rw [keptN_yes hr]; simp [List.getD_eq_getElem?_getD, List.getElem?_append_left h]
theorem kept_hi {R : List Bool} {k : Nat} (hr : R.getD k false = true) : (Zav R (k + 1)).getD (Zav R k).length 0 = k := by
  rw [keptN_yes hr]; simp [List.getD_eq_getElem?_getD]
theorem Zd0 {R : List Bool} {k : Nat} (hr : R.getD k false = true) : (Zav R (k + 1)).length = (Zav R k).length + 1 := by
  rw [keptN_yes hr]; simp
theorem keptB_len (f : Func) (R : List Bool) (k : Nat) : (Zdb f R k).length = (Zav R k).length := by unfold Zdb; rw [List.length_map]
theorem keptB_at {f : Func} {R : List Bool} {k q : Nat} (h : q < (Zav R k).length) : (Zdb f R k).getD q default = renN R (f.blocks.getD ((Zav R k).getD q 0) default) := by
  unfold Zdb
  rw [List.getD_eq_getElem?_getD, List.getElem?_map, List.getElem?_eq_getElem h, Zbm 0 h]; rfl
theorem kill1_blkR (l : List Zbd) : Dv.mapB (kill (910, 0, 0)) (blkR 0 l l.length (fun _ => .any)) = blkR 0 l l.length (fun _ => .any) := by
  unfold blkR Dv.mapB
  simp only [cond_false]
  congr 1
  funext q
  show [_, _, _, _, _, Zbo _ (sel _ _ _), _, _, _, _, _, _, _, _] = _
  rw [map_sel]; rfl
theorem named_mem {f : Func} {n : Nat} (hn : n < f.blocks.length) (h : (Fl.next f n).length = Zd5 (f.blocks.getD n default)) :
    (0 < Zd5 (f.blocks.getD n default) → (f.blocks.getD n default).fin.to ∈ Fl.next f n) ∧ ((f.blocks.getD n default).fin.kind = 3 → (f.blocks.getD n default).fin.els ∈ Fl.next f n) ∧ ((f.blocks.getD n default).fin.kind = 4 → (f.blocks.getD n default).fin.pad ∈ Fl.next f n) := by
  have hin : Fl.isIn f n = true := by unfold Fl.isIn; simp; omega
  have hnx : Fl.next f n = Fl.kept (fun k => !Fl.isIn f k) (Fl.nxt (f.blocks.getD n default)) := by
    unfold Fl.next; rw [if_pos hin]; rfl
  rw [hnx] at h ⊢
  generalize f.blocks.getD n default = b at h
  have hlen : (Fl.nxt b).length = Zd5 b := by
    unfold Fl.nxt Fl.Zc6 Zd5
    by_cases h2 : b.fin.kind = 2
    · simp [h2]
    · by_cases h3 : b.fin.kind = 3
      · simp [h3]
      · by_cases h4 : b.fin.kind = 4
        · simp [h4]
        · simp [h2, h3, h4]
  have hall : Fl.kept (fun k => !Fl.isIn f k) (Fl.nxt b) = Fl.nxt b := by
    have := List.length_filter_eq_length_iff.1 (h.trans hlen.symm)
    exact List.filter_eq_self.2 this
  rw [hall]
  unfold Fl.nxt Fl.Zc6 Zd5
  by_cases h2 : b.fin.kind = 2
  · simp [h2]
  · by_cases h3 : b.fin.kind = 3
    · simp [h3]
    · by_cases h4 : b.fin.kind = 4
      · simp [h4]
      · simp [h2, h3, h4]
def rdF (f : Func) : List Dv.Id := (1000, 0, 0) :: (List.range f.blocks.length).map fun q => (1001, 0, q)
theorem rdF_ins {f : Func} {q : Nat} (hq : q < f.blocks.length) : (1001, 0, q) ∈ rdF f := List.mem_cons_of_mem _ (List.mem_map.2 ⟨q, List.mem_range.2 hq, rfl⟩)
theorem res_fun {h : Zan} {f : Func} (h1000 : h (1000, 0, 0) = some (blkR 0 f.blocks f.blocks.length (fun _ => .any)))
    (h1001 : ∀ q, q < f.blocks.length → h (1001, 0, q) = some (insR (f.blocks.getD q default).ins)) : Res h (rdF f) (.agg [iv f.params, iv f.regs, .rs (1000, 0, 0) 14 0 f.blocks.length]) (.agg (Za1 f)) := by
  refine .agg (.cons (.imm rfl) (.cons (.imm rfl) (.cons (.rsN (imm := false) (k := f.blocks.length) (f := fun q => blkO (f.blocks.getD q default) (sel (Nat.blt q f.blocks.length) (.rs (1001, 0, q) 7 0 (f.blocks.getD q default).ins.length) .any)) h1000 List.mem_cons_self (Nat.le_of_eq (Nat.zero_add _)) rfl (fun q hq => ?_)) .nil)))
  rw [Nat.zero_add, Zat hq]
  exact .cons (.imm rfl) (.cons (.imm rfl) (.cons (.imm rfl) (.cons (.imm rfl) (.cons (.imm rfl) (.cons (.rs (h1001 q hq) (rdF_ins hq) (Nat.le_of_eq (Nat.zero_add _)) rfl (fun x hx => by rw [Nat.zero_add])) (Ress.imms rfl))))))
theorem cp_blk (f : Func) : copyH [f] (1000, 0, 0) = some (blkR 0 f.blocks f.blocks.length (fun _ => .any)) := show treeF [f] 1 0 (1000, 0, 0) = _ from Zbq (by decide)
theorem cp_ins {f : Func} {q : Nat} (hq : q < f.blocks.length) : copyH [f] (1001, 0, q) = some (insR (f.blocks.getD q default).ins) := show treeF [f] 1 0 (1001, 0, q) = _ from Zbe (.inl ⟨by decide, hq⟩)
def srcI (o : Dv.Id) (σ : Nat → Nat) (j : Dv.Id) : Option Dv.Id := bif Nat.beq j.1 1000 then some o else some (1001, 0, σ j.2.2)
theorem Zdt {i : Nat} {g : Func} {j : Dv.Id} {b : Zam} (h : Zc0 i g j = some b) : (j = (1000, i, 0) ∧ b = blkR i g.blocks g.blocks.length (fun _ => .any)) ∨ ∃ q, j = (1001, i, q) ∧ q < g.blocks.length ∧ b = insR (g.blocks.getD q default).ins := by
  rcases Zfn h with e | ⟨_, e⟩
  · simp only [Za2] at e
    cases e2 : idEq (1000, i, 0) j with
    | false => rw [e2] at e; cases e
    | true => have := Za0.1 e2; subst this; rw [e2] at e; cases e; exact .inl ⟨rfl, rfl⟩
  · obtain ⟨a, q, rfl, h3⟩ := Ze8 e
    cases e2 : (Nat.beq a i && Nat.blt q g.blocks.length) with
    | false => rw [e2] at h3; cases h3
    | true =>
      rw [e2] at h3
      rw [Bool.and_eq_true, Nat.blt_eq] at e2
      have := Nat.eq_of_beq_eq_true e2.1
      subst this
      exact .inr ⟨q, rfl, e2.2, (Option.some.inj h3).symm⟩
theorem treeI_blk {i : Nat} {g : Func} : Zc0 i g (1000, i, 0) = some (blkR i g.blocks g.blocks.length (fun _ => .any)) := by
  unfold Zc0 orH
  have : Za2 [((1000, i, 0), blkR i g.blocks g.blocks.length (fun _ => .any))] (1000, i, 0) = some (blkR i g.blocks g.blocks.length (fun _ => .any)) := by
    simp only [Za2]; rw [Za0.2 rfl]; rfl
  rw [this]
theorem treeI_ins {i : Nat} {g : Func} {q : Nat} (hq : q < g.blocks.length) : Zc0 i g (1001, i, q) = some (insR (g.blocks.getD q default).ins) := by
  refine orH_right ?_ ?_
  · simp only [Za2]; rw [Zbf.2 (fun e => by cases e)]; rfl
  · show (bif (Nat.beq i i && Nat.blt q g.blocks.length) then _ else none) = _
    have : (Nat.beq i i && Nat.blt q g.blocks.length) = true := by rw [Bool.and_eq_true, Nat.blt_eq]; exact ⟨by simp, hq⟩
    rw [this]; rfl
theorem bigH_at {dead : List Dv.Id} {u h : Zan} {j : Dv.Id} {b : Zam} (e : u j = some b) : bigH dead u h j = some b := by unfold bigH; rw [e]
theorem leave_fn {i : Nat} {g : Func} {h : Zan} {o : Dv.Id} {σ : Nat → Nat} (ho : o.1 ≠ 1001) (hσ : ∀ a b, a < g.blocks.length → b < g.blocks.length → σ a = σ b → a = b) {b0 : Zam} (h0 : h o = some b0)
    (h1 : GB (srcI o σ) h (Zc0 i g) b0 (blkR i g.blocks g.blocks.length (fun _ => .any))) (h2 : ∀ q, q < g.blocks.length → h (1001, 0, σ q) = some (insR (g.blocks.getD q default).ins)) :
    (∀ j j' k, (Zc0 i g j).isSome = true → (Zc0 i g j').isSome = true → srcI o σ j = some k → srcI o σ j' = some k → j = j') ∧ ∀ j b, Zc0 i g j = some b → HOk (srcI o σ) h (Zc0 i g) j b := by
  constructor
  · intro j j' k e1 e2 e3 e4
    cases f1 : Zc0 i g j with
    | none => rw [f1] at e1; cases e1
    | some b =>
      cases f2 : Zc0 i g j' with
      | none => rw [f2] at e2; cases e2
      | some b' =>
        rcases Zdt f1 with ⟨rfl, _⟩ | ⟨q, rfl, hq, _⟩ <;> rcases Zdt f2 with ⟨rfl, _⟩ | ⟨q', rfl, hq', _⟩
        · rfl
        · have a : some o = some k := e3
          have b : some (1001, 0, σ q') = some k := e4
          rw [← a] at b
          exact absurd (congrArg Prod.fst (Option.some.inj b)).symm ho
        · have a : some o = some k := e4
          have b : some (1001, 0, σ q) = some k := e3
          rw [← a] at b
          exact absurd (congrArg Prod.fst (Option.some.inj b)).symm ho
        · have a : some (1001, 0, σ q) = some k := e3
          have b : some (1001, 0, σ q') = some k := e4
          rw [← a] at b
          have := hσ q q' hq hq' (congrArg (fun x => x.2.2) (Option.some.inj b)).symm
          rw [this]
  · intro j b e
    rcases Zdt e with ⟨rfl, rfl⟩ | ⟨q, rfl, hq, rfl⟩
    · exact HOk.mk rfl h0 h1
    · exact HOk.mk (i := (1001, 0, σ q)) rfl (h2 q hq) (Zc2 _)
theorem Zbr (f : Func) : Zc0 0 f (1000, 0, 0) = some (blkR 0 f.blocks f.blocks.length (fun _ => .any)) := rfl
theorem Zbg {f : Func} {q : Nat} (hq : q < f.blocks.length) : Zc0 0 f (1001, 0, q) = some (insR (f.blocks.getD q default).ins) := treeI_ins hq
theorem Zdz {src : Dv.Id → Option Dv.Id} {h h' : Zan} {f : Func} (h1 : h (1000, 0, 0) = some (blkR 0 f.blocks f.blocks.length (fun _ => .any))) (h2 : ∀ q, q < f.blocks.length → h (1001, 0, q) = some (insR (f.blocks.getD q default).ins))
    (h3 : ∀ q, q < f.blocks.length → h' (1001, 0, q) = some (insR (f.blocks.getD q default).ins)) (hs : ∀ a b, src (1000, a, b) = some (1000, a, b) ∧ src (1001, a, b) = some (1001, a, b)) : ∀ j b, Zc0 0 f j = some b → HOk src h h' j b := by
  intro j b e
  rcases Zdt e with ⟨rfl, rfl⟩ | ⟨q, rfl, hq, rfl⟩
  · exact HOk.mk (hs 0 0).1 h1 (Zcl (fun q hq => .cc (Zat hq) (Zat hq) (.rs (h3 q hq) (hs 0 q).2 rfl rfl)))
  · exact HOk.mk (hs 0 q).2 (h2 q hq) (Zc2 _)
set_option maxHeartbeats 4000000 in
theorem c_dFunc (i : Nat) (f : Func) : HF Try.prog 59 [.agg (Za1 f)] (.agg [iv (Zbj f).params, iv (Zbj f).regs, .rs (1000, i, 0) 14 0 (Zbj f).blocks.length]) (Zc0 i (Zbj f)) := by
  refine HF_intro tok Try.func59 rfl (by decide +kernel) (Nat.le_of_ble_eq_true rfl) ?_
  refine Zau 0 (fun hl => ?_)
  have hmx : maxL = 4294967296 := rfl
  have hl0 : f.blocks.length ≤ maxL := hl.2.2.1.1
  clear hl
  (repeat' first | refine Zad ?_ | (refine Zac tok (by rfl) ?_; conv => whnf))
  refine .inr ⟨_, _, _, uG (QH.giveF (rd := [(10, 0, 0)]) (c_Copy [f]) (.cons (.agg (.cons (.rsN rfl (List.mem_singleton.2 rfl) (Nat.le_refl _) rfl (ltS (Ress.imms rfl) lt0)) .nil)) .nil) (fun i hi => by rcases copyH_dom hi with rfl | ⟨j, rfl⟩ | ⟨j, q, rfl⟩ <;> rfl)), ?_⟩
  conv => whnf
  have hone : [f].length = 1 := rfl
  ((repeat' ((fail_if_success (show AWp _ _ _ (Code.region 2 _ _) _ _)); first | refine Zad ?_ | (refine @And.intro (Zaa _ _ _ _) _ ?_ ?_; rotate_left; (conv => whnf); rotate_right))); all_goals (try ((guard_target = Zaa _ _ _ _); refine Zae ?_; (all_goals (try simp only [Zaa, kzz, kz11, kz12, maxL, Zab] at *)); all_goals omega)))
  have hc1 := cp_blk f
  have hc2 : ∀ q, q < f.blocks.length → copyH [f] (1001, 0, q) = some (insR (f.blocks.getD q default).ins) := fun q hq => cp_ins hq
  refine Za6 (Weak.fam (L := []) (tl := [(1, .bp (1, 0, 0) 0), (2, .bp (2, 0, 0) 0)]) (hl := [((1, 0, 0), .row false 3 1 (fun _ => [iv f.params, iv f.regs, .rs (1000, 0, 0) 14 0 f.blocks.length])), ((2, 0, 0), Zaw [iv 0, iv 0, .nsl])]) (F := (Zc0 0 f)) [] rfl (fun c hc => by cases hc) ?_ ?_ ?_ (fun i hi => by cases hi)) ?_
  · (repeat' first | exact TLg.nil | refine TLg.cons (GV.bp rfl rfl) ?_)
    all_goals rfl
  · refine (.old rfl rfl (GB.one ?_ (fun e => by cases e)) (.old rfl rfl (GB.one (GVs.imm rfl) (fun _ => rfl)) .nil))
    exact .cons (.imm rfl) (.cons (.imm rfl) (.cons (.rs (Zbr f) rfl rfl rfl) .nil))
  · refine Zdz ?_ (fun q hq => ?_) (fun q hq => Zbg hq) (fun _ _ => ⟨rfl, rfl⟩)
    · dsimp only [updH, bigH]
      rw [hc1]; rfl
    · dsimp only [updH, bigH]
      rw [hc2 q hq]; rfl
  (repeat' (refine Zac tok (by rfl) ?_; conv => whnf))
  refine .inl ⟨_, _, _, uG (QC.fo (rd := rdF f) (Fl.fo22 f) (.cons (res_fun (Zbr f) (fun q hq => Zbg hq)) .nil) (.inr (fun _ _ => rfl)) rfl), ?_⟩
  conv => whnf
  have hRl := Fl.reachB_len f
  have hR0 : ∀ n k, n < f.blocks.length → (Fl.Zbc f).getD n false = true → k ∈ Fl.next f n → (Fl.Zbc f).getD k.toNat false = true := fun n k _ h hk => (Fl.Zcc f _).2 (.step ((Fl.Zcc f n).1 h) hk)
  have hry := ref13_yes (f := f)
  have hrn := ref13_no (f := f)
  have hwr := Fl.walked_reach f
  have hgen : ∃ R, Fl.Zbc f = R := ⟨_, rfl⟩
  obtain ⟨R, hR⟩ := hgen
  simp only [hR] at hRl hR0 hry hrn hwr
  (repeat' ((fail_if_success (show AWp _ _ _ (Code.region 3 _ _) _ _)); refine Zad ?_))
  refine Za6 (Weak.fam (L := []) (tl := [(1, .bp (1, 0, 0) 0), (2, .bp (2, 0, 0) 0), (3, bools R)]) (hl := [((1, 0, 0), .row false 3 1 (fun _ => [iv f.params, iv f.regs, .rs (1000, 0, 0) 14 0 f.blocks.length])), ((2, 0, 0), Zaw [iv 0, iv 0, .nsl])]) (F := (Zc0 0 f)) [] rfl (fun c hc => by cases hc) ?_ ?_ ?_ (fun i hi => by cases hi)) ?_
  · refine .cons (.bp rfl rfl) (.cons (.bp rfl rfl) (.cons (.frz (hd_of rfl (fun j hj e => by cases e; cases hj)) rfl (Nat.le_of_eq (Nat.zero_add _)) hRl.symm (fun x hx => GVs.eqI rfl (by rw [Nat.zero_add, hwr])) (fun _ _ => rfl)) .nil))
  · refine (.old rfl rfl (GB.one ?_ (fun e => by cases e)) (.old rfl rfl (GB.one (GVs.imm rfl) (fun _ => rfl)) .nil))
    exact .cons (.imm rfl) (.cons (.imm rfl) (.cons (.rs (Zbr f) rfl rfl rfl) .nil))
  · exact Zdz (Zbr f) (fun q hq => Zbg hq) (fun q hq => Zbg hq) (fun _ _ => ⟨rfl, rfl⟩)
  (repeat' (refine Zac tok (by rfl) ?_; conv => whnf))
  refine .inl ⟨_, _, _, uG (QC.sc (rd := rdF f) (c_fits f R hRl) (.cons (res_fun (Zbr f) (fun q hq => Zbg hq)) (.cons (.imm rfl) .nil)) rfl), ?_⟩
  conv => whnf
  (repeat' first | refine Zad ?_ | (refine Zac tok (by rfl) ?_; conv => whnf) | (refine Zai ?_; conv => whnf) | (refine Zak ?_; conv => whnf) | refine Zah rfl (fun hb => ?_) (fun hb => ?_))
  · have hf : fitsB f R = false := by simpa using hb
    rw [hrn hf]
    refine ⟨_, srcI (1000, 0, 0) (fun q => q), rfl, (leave_fn (i := i) (g := f) (h := Zc0 0 f) (o := (1000, 0, 0)) (σ := fun q => q) (by decide) (fun a b _ _ e => e) (Zbr f) (Zcl (fun q hq => .cc (Zat hq) (Zat hq) (.rs (treeI_ins hq) rfl rfl rfl))) (fun q hq => Zbg hq)).1,
      (leave_fn (b0 := blkR 0 f.blocks f.blocks.length (fun _ => .any)) (by decide) (fun a b _ _ e => e) ?_ (Zcl (fun q hq => .cc (Zat hq) (Zat hq) (.rs (treeI_ins hq) rfl rfl rfl))) ?_).2, .agg (.cons (.imm rfl) (.cons (.imm rfl) (.cons (.rs treeI_blk rfl rfl rfl) .nil)))⟩
    · exact Zbr f
    · exact fun q hq => Zbg hq
  have hf : fitsB f R = true := by simpa using hb
  clear hb
  have hok0 : allOk f R = true := by
    have h := (fits_iff (f := f)).1
    rw [hR] at h
    exact (h hf).1
  rw [hry hf]
  refine .inl ⟨_, _, _, uG (QC.fc (c_anew R) rfl), ?_⟩
  conv => whnf
  (repeat' first | refine Zad ?_ | (refine Zac tok (by rfl) ?_; conv => whnf) | refine Zaf ?_)
  refine Zas (fun k : Nat => mkF [(1, .bp (1, 0, 0) 0), (2, .bp (2, 0, 0) 0), (3, bools R), (4, ints (Zb5 R)), (5, .rs (910, 0, 0) 14 0 (Zav R k).length), (26, .rs (1000, 0, 0) 14 0 f.blocks.length), (27, iv f.blocks.length), (28, iv k)] [((1, 0, 0), .row false 3 1 (fun _ => [iv f.params, iv f.regs, .rs (1000, 0, 0) 14 0 f.blocks.length])), ((2, 0, 0), Zaw [iv 0, iv 0, .nsl]), ((910, 0, 0), .row false 14 (Zav R k).length (fun q => blkO (renN R (f.blocks.getD ((Zav R k).getD q 0) default)) (.rs (1001, 0, (Zav R k).getD q 0) 7 0 (f.blocks.getD ((Zav R k).getD q 0) default).ins.length)))] (Zc0 0 f)) (fun k => k ≤ f.blocks.length) (fun k => f.blocks.length - k) 0 (Nat.zero_le _) ?_ ?_
  · refine Weak.fam [((910, 0, 0), none)] rfl (fun i hi => by cases hi) ?_ ?_ ?_ (fun i hi => by cases hi)
    · exact .cons (.bp rfl rfl) (.cons (.bp rfl rfl) (.cons (.imm rfl) (.cons (.imm rfl) (.cons (.nil rfl rfl rfl) (.cons (.rs (Zbr f) rfl rfl rfl) (.cons (.imm rfl) (.cons (.imm rfl) .nil)))))))
    · refine (.old rfl rfl (GB.one ?_ (fun e => by cases e)) (.old rfl rfl (GB.one (GVs.imm rfl) (fun _ => rfl)) (.new rfl .nil)))
      exact .cons (.imm rfl) (.cons (.imm rfl) (.cons (.rs (Zbr f) rfl rfl rfl) .nil))
    · exact Zdz (Zbr f) (fun q hq => Zbg hq) (fun q hq => Zbg hq) (fun _ _ => ⟨rfl, rfl⟩)
  intro k hk
  (repeat' ((fail_if_success (show AWp _ _ _ (Code.region 9 _ _) _ _)); (fail_if_success (show AWp _ _ _ (Code.region 21 _ _) _ _)); first | refine Zad ?_ | (refine Zac tok (by rfl) ?_; conv => whnf) | refine Zaf ?_ | (refine Zai ?_; conv => whnf) | (refine Zar ?_; conv => whnf) | refine Zah rfl (fun hb => ?_) (fun hb => ?_)))
  · have hkl : k < f.blocks.length := by simp only [decide_eq_true_eq] at hb; omega
    clear hb
    have hgen : ∃ b, f.blocks.getD k default = b := ⟨_, rfl⟩
    obtain ⟨b, hbk⟩ := hgen
    ((repeat' ((fail_if_success (show AWp _ _ _ (Code.region 10 _ _) _ _)); first | (refine Zac tok (by rfl) ?_; conv => whnf) | (refine @And.intro (Zaa _ _ _ _) _ ?_ ?_; rotate_left; (conv => whnf); rotate_right))); all_goals (try ((guard_target = Zaa _ _ _ _); refine Zae ?_; (all_goals (try simp only [Zaa, kzz, kz11, kz12, maxL, Zab] at *)); all_goals omega)))
    have hzk : 0 + (k : Int).toNat = k := by simp
    refine fAV (y := .rs (1001, 0, k) 7 0 b.ins.length) ?_ ?_
    · show sel (Nat.blt (0 + (k : Int).toNat) f.blocks.length) (.rs (1001, 0, 0 + (k : Int).toNat) 7 0 (f.blocks.getD (0 + (k : Int).toNat) default).ins.length) _ = _
      rw [hzk, Zat hkl, hbk]
    conv => whnf
    (repeat' ((fail_if_success (show AWp _ _ _ (Code.region 10 _ _) _ _)); refine Zad ?_))
    refine Za6 (Weak.fam (L := []) (tl := [(1, .bp (1, 0, 0) 0), (2, .bp (2, 0, 0) 0), (3, bools R), (4, ints (Zb5 R)), (5, .rs (910, 0, 0) 14 0 (Zav R k).length), (6, iv k), (7, .bp (7, 0, 0) 0), (26, .rs (1000, 0, 0) 14 0 f.blocks.length), (27, iv f.blocks.length), (28, iv k)]) (hl := [((1, 0, 0), .row false 3 1 (fun _ => [iv f.params, iv f.regs, .rs (1000, 0, 0) 14 0 f.blocks.length])), ((2, 0, 0), Zaw [iv 0, iv 0, .nsl]), ((910, 0, 0), .row false 14 (Zav R k).length (fun q => blkO (renN R (f.blocks.getD ((Zav R k).getD q 0) default)) (.rs (1001, 0, (Zav R k).getD q 0) 7 0 (f.blocks.getD ((Zav R k).getD q 0) default).ins.length))), ((7, 0, 0), .row false 14 1 (fun _ => blkO b (.rs (1001, 0, k) 7 0 b.ins.length)))]) (F := (Zc0 0 f)) [] rfl (fun c hc => by cases hc) ?_ ?_ ?_ (fun i hi => by cases hi)) ?_
    · exact .cons (.bp rfl rfl) (.cons (.bp rfl rfl) (.cons (.imm rfl) (.cons (.imm rfl) (.cons (.rs rfl rfl rfl rfl) (.cons (.imm rfl) (.cons (.bp rfl rfl) (.cons (.rs (Zbr f) rfl rfl rfl) (.cons (.imm rfl) (.cons (.imm rfl) .nil)))))))))
    · refine (.old rfl rfl (GB.one ?_ (fun e => by cases e)) (.old rfl rfl (GB.one (GVs.imm rfl) (fun _ => rfl)) (.old rfl rfl (GB.row (Nat.le_refl _) (fun q hq => ?_) (fun e => by cases e)) (.old rfl rfl (GB.one ?_ (fun e => by cases e)) .nil))))
      · exact .cons (.imm rfl) (.cons (.imm rfl) (.cons (.rs (Zbr f) rfl rfl rfl) .nil))
      · exact Zb6 (.rs (Zbg (Nat.lt_of_lt_of_le (Zcr hq) hk)) rfl rfl rfl)
      · show GVs _ _ _ (blkO (f.blocks.getD (0 + (k : Int).toNat) default) (.rs (1001, 0, k) 7 0 b.ins.length)) (blkO b (.rs (1001, 0, k) 7 0 b.ins.length))
        rw [hzk, hbk]
        exact Zb6 (.rs (Zbg hkl) rfl rfl rfl)
    · exact Zdz (Zbr f) (fun q hq => Zbg hq) (fun q hq => Zbg hq) (fun _ _ => ⟨rfl, rfl⟩)
    have hal := anewL_len R
    have hfk : R.getD k false = true → (b.fin.kind = 2 → 0 ≤ b.fin.to ∧ b.fin.to < R.length ∧ (Zb5 R).getD b.fin.to.toNat 0 = numB R b.fin.to.toNat) ∧ (b.fin.kind = 3 → 0 ≤ b.fin.to ∧ b.fin.to < R.length ∧ (Zb5 R).getD b.fin.to.toNat 0 = numB R b.fin.to.toNat ∧ 0 ≤ b.fin.els ∧ b.fin.els < R.length ∧ (Zb5 R).getD b.fin.els.toNat 0 = numB R b.fin.els.toNat) ∧
        (b.fin.kind = 4 → 0 ≤ b.fin.to ∧ b.fin.to < R.length ∧ (Zb5 R).getD b.fin.to.toNat 0 = numB R b.fin.to.toNat ∧ 0 ≤ b.fin.pad ∧ b.fin.pad < R.length ∧ (Zb5 R).getD b.fin.pad.toNat 0 = numB R b.fin.pad.toNat) := by
      intro hr1
      have hok := (List.all_eq_true.1 hok0) k (List.mem_range.2 hkl)
      unfold okAt at hok
      rw [hr1] at hok
      simp only [cond_true, decide_eq_true_eq] at hok
      have hok' : (Fl.next f k).length = Zd5 (f.blocks.getD k default) := by exact_mod_cast hok
      have n1 := named_in hkl hok'
      have n2 := named_mem hkl hok'
      rw [hbk] at n1 n2
      have hv : ∀ x : Int, 0 ≤ x → x < R.length → x ∈ Fl.next f k → (Zb5 R).getD x.toNat 0 = numB R x.toNat := fun x h0 h1 h2 => by
        rw [anewL_at (by omega), if_pos (hR0 k x hkl hr1 h2)]
      have m2 : b.fin.kind = 2 ∨ b.fin.kind = 3 ∨ b.fin.kind = 4 → 0 < Zd5 b := by
        unfold Zd5; rintro (h | h | h) <;> simp [h]
      refine ⟨fun h => ?_, fun h => ?_, fun h => ?_⟩
      · obtain ⟨a1, a2⟩ := n1.1 (m2 (.inl h))
        exact ⟨a1, by omega, hv _ a1 (by omega) (n2.1 (m2 (.inl h)))⟩
      · obtain ⟨a1, a2⟩ := n1.1 (m2 (.inr (.inl h)))
        obtain ⟨a3, a4⟩ := n1.2.1 h
        exact ⟨a1, by omega, hv _ a1 (by omega) (n2.1 (m2 (.inr (.inl h)))), a3, by omega, hv _ a3 (by omega) (n2.2.1 h)⟩
      · obtain ⟨a1, a2⟩ := n1.1 (m2 (.inr (.inr h)))
        obtain ⟨a3, a4⟩ := n1.2.2 h
        exact ⟨a1, by omega, hv _ a1 (by omega) (n2.1 (m2 (.inr (.inr h)))), a3, by omega, hv _ a3 (by omega) (n2.2.2 h)⟩
    ((repeat' ((fail_if_success (show AWp _ _ _ (Code.region 11 _ _) _ _)); first | refine Zad ?_ | (refine Zac tok (by rfl) ?_; conv => whnf) | (refine Zai ?_; conv => whnf) | (refine Zar ?_; conv => whnf) | refine Zah rfl (fun hb => ?_) (fun hb => ?_) | (refine @And.intro (Zaa _ _ _ _) _ ?_ ?_; rotate_left; (conv => whnf); rotate_right))); all_goals (try ((guard_target = Zaa _ _ _ _); refine Zae ?_; (all_goals (try simp only [Zaa, kzz, kz11, kz12, maxL, Zab] at *)); all_goals omega)))
    · have hr0 : R.getD k false = false := by simpa using hb
      clear hb
      refine ⟨k + 1, hkl, by omega, ?_⟩
      refine Weak.fam [] rfl (fun i hi => by cases hi) ?_ ?_ ?_ (fun i hi => by cases hi)
      · exact .cons (.bp rfl rfl) (.cons (.bp rfl rfl) (.cons (.imm rfl) (.cons (.imm rfl) (.cons (.rs rfl rfl rfl (by rw [Zd1 hr0])) (.cons (.rs (Zbr f) rfl rfl rfl) (.cons (.imm rfl) (.cons (.int (by rw [Zaj (by omega) (by omega)]; rfl)) .nil)))))))
      · refine (.old rfl rfl (GB.one (.cons (.imm rfl) (.cons (.imm rfl) (.cons (.rs (Zbr f) rfl rfl rfl) .nil))) (fun e => by cases e)) (.old rfl rfl (GB.one (GVs.imm rfl) (fun _ => rfl)) (.old rfl rfl (GB.row (Nat.le_of_eq (by rw [Zd1 hr0])) (fun q hq => ?_) (fun e => by cases e)) .nil)))
        rw [Zd1 hr0] at hq ⊢
        exact Zb6 (.rs (Zbg (Nat.lt_of_lt_of_le (Zcr hq) hk)) rfl rfl rfl)
      · exact Zdz (Zbr f) (fun q hq => Zbg hq) (fun q hq => Zbg hq) (fun _ _ => ⟨rfl, rfl⟩)
    · have hr1 : R.getD k false = true := by simpa using hb
      clear hb
      obtain ⟨hk2, hk3, hk4⟩ := hfk hr1
      clear hfk
      have hkn := keptN_le R k
      (repeat' first | refine Zad ?_ | (refine Zac tok (by rfl) ?_; conv => whnf))
      refine Zc8 (α := Unit) (fun _ => mkF [(1, .bp (1, 0, 0) 0), (2, .bp (2, 0, 0) 0), (3, bools R), (4, ints (Zb5 R)), (5, .rs (910, 0, 0) 14 0 (Zav R k).length), (6, iv k), (7, .bp (7, 0, 0) 0), (26, .rs (1000, 0, 0) 14 0 f.blocks.length), (27, iv f.blocks.length), (28, iv k)] [((1, 0, 0), .row false 3 1 (fun _ => [iv f.params, iv f.regs, .rs (1000, 0, 0) 14 0 f.blocks.length])), ((2, 0, 0), Zaw [iv 0, iv 0, .nsl]), ((910, 0, 0), .row false 14 (Zav R k).length (fun q => blkO (renN R (f.blocks.getD ((Zav R k).getD q 0) default)) (.rs (1001, 0, (Zav R k).getD q 0) 7 0 (f.blocks.getD ((Zav R k).getD q 0) default).ins.length))), ((7, 0, 0), .row false 14 1 (fun _ => blkO (renN R b) (.rs (1001, 0, k) 7 0 b.ins.length)))] (Zc0 0 f)) (fun _ => True) ?_ ?_
      · ((repeat' first | refine Zad ?_ | (refine Zac tok (by rfl) ?_; conv => whnf) | (refine Zbb tok mix (by rfl) ?_; conv => whnf) | refine Zaf ?_ | (refine Zai ?_; conv => whnf) | (refine Zar ?_; conv => whnf) | refine Zah rfl (fun hb => ?_) (fun hb => ?_) | (refine @And.intro (Zaa _ _ _ _) _ ?_ ?_; rotate_left; (conv => whnf); rotate_right)); all_goals (try ((guard_target = Zaa _ _ _ _); refine Zae ?_; (all_goals (try simp only [Zaa, kzz, kz11, kz12, maxL, Zab] at *)); all_goals omega)))
        · have h4 : b.fin.kind = 4 := by simpa using hb
          obtain ⟨a1, a2, a3, a4, a5, a6⟩ := hk4 h4
          refine ⟨(), trivial, Weak.fam [] rfl (fun i hi => by cases hi) ?_ ?_ ?_ (fun i hi => by cases hi)⟩
          · exact .cons (.bp rfl rfl) (.cons (.bp rfl rfl) (.cons (.imm rfl) (.cons (.imm rfl) (.cons (.rs rfl rfl rfl rfl) (.cons (.imm rfl) (.cons (.bp rfl rfl) (.cons (.rs (Zbr f) rfl rfl rfl) (.cons (.imm rfl) (.cons (.imm rfl) .nil)))))))))
          · refine (.old rfl rfl (GB.one (.cons (.imm rfl) (.cons (.imm rfl) (.cons (.rs (Zbr f) rfl rfl rfl) .nil))) (fun e => by cases e)) (.old rfl rfl (GB.one (GVs.imm rfl) (fun _ => rfl)) (.old rfl rfl (GB.row (Nat.le_refl _) (fun q hq => ?_) (fun e => by cases e)) (.old rfl rfl (GB.one ?_ (fun e => by cases e)) .nil))))
            · exact Zb6 (.rs (Zbg (Nat.lt_of_lt_of_le (Zcr hq) hk)) rfl rfl rfl)
            · have e : renN R b = { b with fin := { b.fin with to := (Zb5 R).getD b.fin.to.toNat 0, pad := (Zb5 R).getD b.fin.pad.toNat 0 } } := by
                unfold renN ren3 ren2 ren1 Zd5; rw [a3, a6]; simp [h4]
              rw [e]
              show GVs _ _ _ (blkO ({ b with fin := { b.fin with to := (Zb5 R).getD b.fin.to.toNat 0, pad := (Zb5 R).getD b.fin.pad.toNat 0 } }) (.rs (1001, 0, k) 7 0 b.ins.length)) _
              exact Zb6 (.rs (Zbg hkl) rfl rfl rfl)
          · exact Zdz (Zbr f) (fun q hq => Zbg hq) (fun q hq => Zbg hq) (fun _ _ => ⟨rfl, rfl⟩)
        · have h2 : b.fin.kind = 2 := by simpa using hb
          obtain ⟨a1, a2, a3⟩ := hk2 h2
          refine ⟨(), trivial, Weak.fam [] rfl (fun i hi => by cases hi) ?_ ?_ ?_ (fun i hi => by cases hi)⟩
          · exact .cons (.bp rfl rfl) (.cons (.bp rfl rfl) (.cons (.imm rfl) (.cons (.imm rfl) (.cons (.rs rfl rfl rfl rfl) (.cons (.imm rfl) (.cons (.bp rfl rfl) (.cons (.rs (Zbr f) rfl rfl rfl) (.cons (.imm rfl) (.cons (.imm rfl) .nil)))))))))
          · refine (.old rfl rfl (GB.one (.cons (.imm rfl) (.cons (.imm rfl) (.cons (.rs (Zbr f) rfl rfl rfl) .nil))) (fun e => by cases e)) (.old rfl rfl (GB.one (GVs.imm rfl) (fun _ => rfl)) (.old rfl rfl (GB.row (Nat.le_refl _) (fun q hq => ?_) (fun e => by cases e)) (.old rfl rfl (GB.one ?_ (fun e => by cases e)) .nil))))
            · exact Zb6 (.rs (Zbg (Nat.lt_of_lt_of_le (Zcr hq) hk)) rfl rfl rfl)
            · have e : renN R b = { b with fin := { b.fin with to := (Zb5 R).getD b.fin.to.toNat 0 } } := by
                unfold renN ren3 ren2 ren1 Zd5; rw [a3]; simp [h2]
              rw [e]
              show GVs _ _ _ (blkO ({ b with fin := { b.fin with to := (Zb5 R).getD b.fin.to.toNat 0 } }) (.rs (1001, 0, k) 7 0 b.ins.length)) _
              exact Zb6 (.rs (Zbg hkl) rfl rfl rfl)
          · exact Zdz (Zbr f) (fun q hq => Zbg hq) (fun q hq => Zbg hq) (fun _ _ => ⟨rfl, rfl⟩)
        · have h3 : b.fin.kind = 3 := by simpa using hb
          obtain ⟨a1, a2, a3, a4, a5, a6⟩ := hk3 h3
          refine ⟨(), trivial, Weak.fam [] rfl (fun i hi => by cases hi) ?_ ?_ ?_ (fun i hi => by cases hi)⟩
          · exact .cons (.bp rfl rfl) (.cons (.bp rfl rfl) (.cons (.imm rfl) (.cons (.imm rfl) (.cons (.rs rfl rfl rfl rfl) (.cons (.imm rfl) (.cons (.bp rfl rfl) (.cons (.rs (Zbr f) rfl rfl rfl) (.cons (.imm rfl) (.cons (.imm rfl) .nil)))))))))
          · refine (.old rfl rfl (GB.one (.cons (.imm rfl) (.cons (.imm rfl) (.cons (.rs (Zbr f) rfl rfl rfl) .nil))) (fun e => by cases e)) (.old rfl rfl (GB.one (GVs.imm rfl) (fun _ => rfl)) (.old rfl rfl (GB.row (Nat.le_refl _) (fun q hq => ?_) (fun e => by cases e)) (.old rfl rfl (GB.one ?_ (fun e => by cases e)) .nil))))
            · exact Zb6 (.rs (Zbg (Nat.lt_of_lt_of_le (Zcr hq) hk)) rfl rfl rfl)
            · have e : renN R b = { b with fin := { b.fin with to := (Zb5 R).getD b.fin.to.toNat 0, els := (Zb5 R).getD b.fin.els.toNat 0 } } := by
                unfold renN ren3 ren2 ren1 Zd5; rw [a3, a6]; simp [h3]
              rw [e]
              show GVs _ _ _ (blkO ({ b with fin := { b.fin with to := (Zb5 R).getD b.fin.to.toNat 0, els := (Zb5 R).getD b.fin.els.toNat 0 } }) (.rs (1001, 0, k) 7 0 b.ins.length)) _
              exact Zb6 (.rs (Zbg hkl) rfl rfl rfl)
          · exact Zdz (Zbr f) (fun q hq => Zbg hq) (fun q hq => Zbg hq) (fun _ _ => ⟨rfl, rfl⟩)
        · rename_i hb4 hb2
          have h3 : ¬ b.fin.kind = 3 := by simpa using hb
          have h4 : ¬ b.fin.kind = 4 := by simpa using hb4
          have h2 : ¬ b.fin.kind = 2 := by simpa using hb2
          refine ⟨(), trivial, Weak.fam [] rfl (fun i hi => by cases hi) ?_ ?_ ?_ (fun i hi => by cases hi)⟩
          · exact .cons (.bp rfl rfl) (.cons (.bp rfl rfl) (.cons (.imm rfl) (.cons (.imm rfl) (.cons (.rs rfl rfl rfl rfl) (.cons (.imm rfl) (.cons (.bp rfl rfl) (.cons (.rs (Zbr f) rfl rfl rfl) (.cons (.imm rfl) (.cons (.imm rfl) .nil)))))))))
          · refine (.old rfl rfl (GB.one (.cons (.imm rfl) (.cons (.imm rfl) (.cons (.rs (Zbr f) rfl rfl rfl) .nil))) (fun e => by cases e)) (.old rfl rfl (GB.one (GVs.imm rfl) (fun _ => rfl)) (.old rfl rfl (GB.row (Nat.le_refl _) (fun q hq => ?_) (fun e => by cases e)) (.old rfl rfl (GB.one ?_ (fun e => by cases e)) .nil))))
            · exact Zb6 (.rs (Zbg (Nat.lt_of_lt_of_le (Zcr hq) hk)) rfl rfl rfl)
            · have e : renN R b = b := by
                unfold renN ren3 ren2 ren1 Zd5; simp [h2, h3, h4]
              rw [e]
              show GVs _ _ _ (blkO b (.rs (1001, 0, k) 7 0 b.ins.length)) _
              exact Zb6 (.rs (Zbg hkl) rfl rfl rfl)
          · exact Zdz (Zbr f) (fun q hq => Zbg hq) (fun q hq => Zbg hq) (fun _ _ => ⟨rfl, rfl⟩)
      rintro ⟨⟩ - τ hw
      refine Za6 hw ?_
      clear hw
      ((repeat' first | (refine Zac tok (by rfl) ?_; conv => whnf) | (refine @And.intro (Zaa _ _ _ _) _ ?_ ?_; rotate_left; (conv => whnf); rotate_right)); all_goals (try ((guard_target = Zaa _ _ _ _); refine Zae ?_; (first | refine And.intro (Zeh rfl ?_) ?_ | skip); (all_goals (try simp only [Zaa, kzz, kz11, kz12, maxL, Zab] at *)); all_goals omega)))
      refine ⟨k + 1, hkl, by omega, ?_⟩
      refine Weak.fam [((910, 0, 0), some (92, 0, 0))] rfl (fun c hc => by simp only [tgts, List.mem_singleton] at hc; subst hc; exact .inl rfl) ?_ ?_ ?_ (fun i hi => by cases hi)
      · exact .cons (.bp rfl rfl) (.cons (.bp rfl rfl) (.cons (.imm rfl) (.cons (.imm rfl) (.cons (.rs rfl rfl rfl (Zd0 hr1).symm) (.cons (.rs (Zbr f) rfl rfl rfl) (.cons (.imm rfl) (.cons (.int (by rw [Zaj (by omega) (by omega)]; rfl)) .nil)))))))
      · refine (.old rfl rfl (GB.one (.cons (.imm rfl) (.cons (.imm rfl) (.cons (.rs (Zbr f) rfl rfl rfl) .nil))) (fun e => by cases e)) (.old rfl rfl (GB.one (GVs.imm rfl) (fun _ => rfl)) (.old rfl rfl (GB.row (Nat.le_of_eq (Zd0 hr1)) (fun q hq => ?_) (fun e => by cases e)) .nil)))
        rw [Zd0 hr1] at hq
        refine GVs_app2 (K := fun l => Zbv (kill (910, 0, 0)) l) hq (fun hlt => ?_) (fun heq => ?_)
        · rw [kept_lo hr1 hlt]
          exact Zb6 (.rs (Zbg (Nat.lt_of_lt_of_le (Zcr hlt) hk)) rfl rfl rfl)
        · subst heq
          rw [kept_hi hr1, hbk]
          exact Zb6 (.rs (Zbg hkl) rfl rfl rfl)
      · refine Zdz ?_ (fun q hq => ?_) (fun q hq => Zbg hq) (fun _ _ => ⟨rfl, rfl⟩)
        · show Option.map _ (Zc0 0 f (1000, 0, 0)) = _
          rw [Zbr f]; exact congrArg some (kill1_blkR _)
        · show Option.map _ (Zc0 0 f (1001, 0, q)) = _
          rw [Zbg hq]; rfl
  · have hkl : k = f.blocks.length := by simp only [decide_eq_false_iff_not] at hb; omega
    clear hb
    subst hkl
    (repeat' first | refine Zad ?_ | (refine Zac tok (by rfl) ?_; conv => whnf) | (refine Zak ?_; conv => whnf))
    have hbl := keptB_len f R f.blocks.length
    have hgb : ∀ h, GB (srcI (910, 0, 0) (fun q => (Zav R f.blocks.length).getD q 0)) h (Zc0 i { f with blocks := Zdb f R f.blocks.length })
        (.row false 14 (Zav R f.blocks.length).length (fun q => blkO (renN R (f.blocks.getD ((Zav R f.blocks.length).getD q 0) default)) (.rs (1001, 0, (Zav R f.blocks.length).getD q 0) 7 0 (f.blocks.getD ((Zav R f.blocks.length).getD q 0) default).ins.length)))
        (blkR i (Zdb f R f.blocks.length) (Zdb f R f.blocks.length).length (fun _ => .any)) := fun h => by
      refine GB.row (Nat.le_of_eq hbl) (fun q hq => ?_) (fun e => by cases e)
      rw [keptB_at (by rw [← hbl]; exact hq)]
      refine Zb6 (.cc rfl (Zat hq) (.rs (treeI_ins (g := { f with blocks := Zdb f R f.blocks.length }) hq) rfl rfl ?_))
      rw [(ren_ins R _).1]
    have hin : ∀ q, q < (Zdb f R f.blocks.length).length → Zc0 0 f (1001, 0, (Zav R f.blocks.length).getD q 0) = some (insR ((Zdb f R f.blocks.length).getD q default).ins) := fun q hq => by
      rw [hbl] at hq
      rw [keptB_at hq, (ren_ins R _).1]
      exact Zbg (Zcr hq)
    refine ⟨_, srcI (910, 0, 0) (fun q => (Zav R f.blocks.length).getD q 0), rfl, ?_, ?_, .agg (.cons (.imm rfl) (.cons (.imm rfl) (.cons (.rs treeI_blk rfl rfl hbl.symm) .nil)))⟩
    · refine (leave_fn (h := orH (Za2 [((910, 0, 0), _)]) (Zc0 0 f)) (b0 := _) (by decide) (fun a b ha hb e => keptN_inj (by rw [← hbl]; exact ha) (by rw [← hbl]; exact hb) e) rfl (hgb _) hin).1
    · refine (leave_fn (b0 := _) (by decide) (fun a b ha hb e => keptN_inj (by rw [← hbl]; exact ha) (by rw [← hbl]; exact hb) e) ?_ (hgb _) ?_).2
      · rfl
      · exact hin
end Go.Proofs.Ytmanpbgaihdalaa
namespace Go.Proofs.Ytmanpbgaihdalaa
open Go Dv
set_option maxRecDepth 10000
set_option linter.unusedSimpArgs false
abbrev u0 : Dv.Id := (0, 7, 0)
abbrev u1 : Dv.Id := (1, 7, 0)
abbrev u2 : Dv.Id := (2, 7, 0)
abbrev nbox (v : Int) : Zam := .row true 1 1 (fun _ => [iv v])
abbrev sbox (S : List Bool) : Zam := .row true 1 1 (fun _ => [bools S])
abbrev u7 : Dv.Id := (7, 7, 0)
abbrev u8 : Dv.Id := (8, 7, 0)
abbrev u9 : Dv.Id := (9, 7, 0)
abbrev anyB : Zam := .row false 1 1 (fun _ => [.any])
def Zbw (l : List Func) : Zan := orH (Za2 [(u8, anyB), (u9, anyB)]) (Zbi l (fun _ => true) (fun _ _ => true))
theorem treeT_blk {l : List Func} {i : Nat} (h : i < l.length) : Zbw l (1000, i, 0) = some (blkR i (l.getD i default).blocks (l.getD i default).blocks.length (fun _ => .any)) := show Zbi l (fun _ => true) (fun _ _ => true) (1000, i, 0) = _ from Zbu h rfl
theorem Zez {l : List Func} {i q : Nat} (h : i < l.length) (hq : q < (l.getD i default).blocks.length) : Zbw l (1001, i, q) = some (insR ((l.getD i default).blocks.getD q default).ins) := show Zbi l (fun _ => true) (fun _ _ => true) (1001, i, q) = _ from Zbp h hq rfl
theorem treeT_some {l : List Func} {j : Dv.Id} {b : Zam} (h : Zbw l j = some b) : (j = u8 ∧ b = anyB) ∨ (j = u9 ∧ b = anyB) ∨ (∃ i, j = (1000, i, 0) ∧ i < l.length ∧ b = blkR i (l.getD i default).blocks (l.getD i default).blocks.length (fun _ => .any)) ∨
    ∃ i q, j = (1001, i, q) ∧ i < l.length ∧ q < (l.getD i default).blocks.length ∧ b = insR ((l.getD i default).blocks.getD q default).ins := by
  rcases Zfn h with e | ⟨_, e⟩
  · simp only [Za2] at e
    cases e2 : idEq u8 j with
    | true => have := Za0.1 e2; rw [e2] at e; exact .inl ⟨this.symm, (Option.some.inj e).symm⟩
    | false =>
      cases e3 : idEq u9 j with
      | true => have := Za0.1 e3; rw [e2, e3] at e; exact .inr (.inl ⟨this.symm, (Option.some.inj e).symm⟩)
      | false => rw [e2, e3] at e; cases e
  · rcases Zb2 e with ⟨i, h1, h2, _, h3⟩ | ⟨i, q, h1, h2, h3, _, h4⟩
    · exact .inr (.inr (.inl ⟨i, h1, h2, h3⟩))
    · exact .inr (.inr (.inr ⟨i, q, h1, h2, h3, h4⟩))
def famIds (l : List Func) : List Dv.Id := u8 :: u9 :: ((List.range l.length).map (fun j => (1000, j, 0)) ++ (List.range l.length).flatMap fun i => (List.range (l.getD i default).blocks.length).map fun q => (1001, i, q))
def LL (l : List Func) : List Dv.Id := u0 :: u1 :: u2 :: famIds l
def LM (l : List Func) : List Dv.Id := u0 :: u1 :: u2 :: u7 :: famIds l
theorem Ze7 {l : List Func} {j : Dv.Id} (h : j ∈ famIds l) : (Zbw l j).isSome = true ∧ pinId j = true ∧ u0 ≠ j ∧ u1 ≠ j ∧ u2 ≠ j ∧ u7 ≠ j := by
  unfold famIds at h
  rcases List.mem_cons.1 h with rfl | h
  · exact ⟨rfl, rfl, by decide, by decide, by decide, by decide⟩
  rcases List.mem_cons.1 h with rfl | h
  · exact ⟨rfl, rfl, by decide, by decide, by decide, by decide⟩
  have big : ∀ (a b c : Nat), 1000 ≤ a → pinId (a, b, c) = true ∧ u0 ≠ (a, b, c) ∧ u1 ≠ (a, b, c) ∧ u2 ≠ (a, b, c) ∧ u7 ≠ (a, b, c) := fun a b c h => by
    refine ⟨by unfold pinId; rw [Bool.or_eq_true, Nat.ble_eq]; exact .inr h, fun e => ?_, fun e => ?_, fun e => ?_, fun e => ?_⟩ <;> cases e <;> omega
  rcases List.mem_append.1 h with h | h
  · obtain ⟨q, hq, rfl⟩ := List.mem_map.1 h
    rw [List.mem_range] at hq
    rw [treeT_blk hq]; exact ⟨rfl, big _ _ _ (Nat.le_refl _)⟩
  · obtain ⟨i, hi, h⟩ := List.mem_flatMap.1 h
    obtain ⟨q, hq, rfl⟩ := List.mem_map.1 h
    rw [List.mem_range] at hq hi
    rw [Zez hi hq]; exact ⟨rfl, big _ _ _ (Nat.le_succ _)⟩
theorem famIds_all {l : List Func} {j : Dv.Id} {b : Zam} (h : Zbw l j = some b) : j ∈ famIds l := by
  unfold famIds
  rcases treeT_some h with ⟨rfl, _⟩ | ⟨rfl, _⟩ | ⟨i, rfl, hi, _⟩ | ⟨i, q, rfl, hi, hq, _⟩
  · exact List.mem_cons_self
  · exact List.mem_cons_of_mem _ List.mem_cons_self
  · exact List.mem_cons_of_mem _ (List.mem_cons_of_mem _ (List.mem_append_left _ (List.mem_map.2 ⟨i, List.mem_range.2 hi, rfl⟩)))
  · exact List.mem_cons_of_mem _ (List.mem_cons_of_mem _ (List.mem_append_right _ (List.mem_flatMap.2 ⟨i, List.mem_range.2 hi, List.mem_map.2 ⟨q, List.mem_range.2 hq, rfl⟩⟩)))
theorem LL_ok {l : List Func} {a b c : Zam} : ∀ i ∈ LL l, pinId i = true → (orH (Za2 [(u0, a), (u1, b), (u2, c)]) (Zbw l) i).isSome = true ∧ srcL [] i = some i := by
  intro i hi _
  refine ⟨?_, rfl⟩
  unfold LL at hi
  rcases List.mem_cons.1 hi with rfl | hi
  · rfl
  rcases List.mem_cons.1 hi with rfl | hi
  · rfl
  rcases List.mem_cons.1 hi with rfl | hi
  · rfl
  obtain ⟨h1, -, h2, h3, h4, h5⟩ := Ze7 hi
  have hn : Za2 [(u0, a), (u1, b), (u2, c)] i = none := by
    simp only [Za2]
    rw [Zbf.2 h2, Zbf.2 h3, Zbf.2 h4]; rfl
  unfold orH; rw [hn]; exact h1
theorem LM_ok {l : List Func} {a b c d : Zam} : ∀ i ∈ LM l, pinId i = true → (orH (Za2 [(u0, a), (u1, b), (u2, c), (u7, d)]) (Zbw l) i).isSome = true ∧ srcL [] i = some i := by
  intro i hi _
  refine ⟨?_, rfl⟩
  unfold LM at hi
  rcases List.mem_cons.1 hi with rfl | hi
  · rfl
  rcases List.mem_cons.1 hi with rfl | hi
  · rfl
  rcases List.mem_cons.1 hi with rfl | hi
  · rfl
  rcases List.mem_cons.1 hi with rfl | hi
  · rfl
  obtain ⟨h1, -, h2, h3, h4, h5⟩ := Ze7 hi
  have hn : Za2 [(u0, a), (u1, b), (u2, c), (u7, d)] i = none := by
    simp only [Za2]
    rw [Zbf.2 h2, Zbf.2 h3, Zbf.2 h4, Zbf.2 h5]; rfl
  unfold orH; rw [hn]; exact h1
theorem LM_pin {l : List Func} {i : Dv.Id} (h : i ∈ LM l) : pinId i = true := by
  unfold LM at h
  rcases List.mem_cons.1 h with rfl | h
  · rfl
  rcases List.mem_cons.1 h with rfl | h
  · rfl
  rcases List.mem_cons.1 h with rfl | h
  · rfl
  rcases List.mem_cons.1 h with rfl | h
  · rfl
  exact (Ze7 h).2.1
theorem HLs_or {src : Dv.Id → Option Dv.Id} {h : Zan} {hl : List (Dv.Id × Zam)} {F : Zan} (hh : HLs src h (orH (Za2 hl) F) hl) (hF : ∀ j b, F j = some b → HOk src h (orH (Za2 hl) F) j b) : ∀ j b, orH (Za2 hl) F j = some b → HOk src h (orH (Za2 hl) F) j b := by
  intro j b e
  unfold orH at e
  cases e1 : Za2 hl j with
  | some x => rw [e1] at e; cases e; exact hh.spec e1
  | none => rw [e1] at e; exact hF j b e
theorem look3 {u v w : Dv.Id} {a b c : Zam} {F : Zan} {i : Dv.Id} (h : (orH (Za2 [(u, a), (v, b), (w, c)]) F i).isSome = true) : i = u ∨ i = v ∨ i = w ∨ (F i).isSome = true := by
  unfold orH at h
  simp only [Za2] at h
  cases e1 : idEq u i with
  | true => exact .inl (Za0.1 e1).symm
  | false =>
    cases e2 : idEq v i with
    | true => exact .inr (.inl (Za0.1 e2).symm)
    | false =>
      cases e3 : idEq w i with
      | true => exact .inr (.inr (.inl (Za0.1 e3).symm))
      | false => rw [e1, e2, e3] at h; exact .inr (.inr (.inr h))
theorem look4 {u v w z : Dv.Id} {a b c d : Zam} {F : Zan} {i : Dv.Id} (h : (orH (Za2 [(u, a), (v, b), (w, c), (z, d)]) F i).isSome = true) : i = u ∨ i = v ∨ i = w ∨ i = z ∨ (F i).isSome = true := by
  unfold orH at h
  simp only [Za2] at h
  cases e1 : idEq u i with
  | true => exact .inl (Za0.1 e1).symm
  | false =>
    cases e2 : idEq v i with
    | true => exact .inr (.inl (Za0.1 e2).symm)
    | false =>
      cases e3 : idEq w i with
      | true => exact .inr (.inr (.inl (Za0.1 e3).symm))
      | false =>
        cases e4 : idEq z i with
        | true => exact .inr (.inr (.inr (.inl (Za0.1 e4).symm)))
        | false => rw [e1, e2, e3, e4] at h; exact .inr (.inr (.inr (.inr h)))
theorem fam_mem {l : List Func} {i : Dv.Id} (h : (Zbw l i).isSome = true) : i ∈ famIds l := by
  cases e : Zbw l i with
  | none => rw [e] at h; cases h
  | some b => exact famIds_all e
theorem LL_all {l : List Func} {a b c : Zam} {i : Dv.Id} (h : (orH (Za2 [(u0, a), (u1, b), (u2, c)]) (Zbw l) i).isSome = true) : i ∈ LL l ∧ i ≠ u7 := by
  unfold LL
  rcases look3 h with rfl | rfl | rfl | h
  · exact ⟨by simp, by decide⟩
  · exact ⟨by simp, by decide⟩
  · exact ⟨by simp, by decide⟩
  · have := fam_mem h
    exact ⟨by simp [this], (Ze7 this).2.2.2.2.2.symm⟩
theorem LM_all {l : List Func} {a b c d : Zam} {i : Dv.Id} (h : (orH (Za2 [(u0, a), (u1, b), (u2, c), (u7, d)]) (Zbw l) i).isSome = true) : i ∈ LM l := by
  unfold LM
  rcases look4 h with rfl | rfl | rfl | rfl | h
  · simp
  · simp
  · simp
  · simp
  · have := fam_mem h
    simp [this]
theorem LL_LM {l : List Func} {i : Dv.Id} (h : i ∈ LL l) : i ∈ LM l := by
  unfold LL at h; unfold LM
  simp only [List.mem_cons] at h ⊢
  rcases h with h | h | h | h
  · exact .inl h
  · exact .inr (.inl h)
  · exact .inr (.inr (.inl h))
  · exact .inr (.inr (.inr (.inr h)))
theorem Zca {u h : Zan} {j : Dv.Id} (e : h j = u j) : bigH [] u h j = u j := by
  unfold bigH
  cases e1 : u j with
  | some b => rfl
  | none => rw [e, e1]; rfl
theorem keepT {src : Dv.Id → Option Dv.Id} {h h' : Zan} {l : List Func} (hh : ∀ a b, h (1000, a, b) = Zbw l (1000, a, b) ∧ h (1001, a, b) = Zbw l (1001, a, b)) (hh' : ∀ a b, h' (1000, a, b) = Zbw l (1000, a, b) ∧ h' (1001, a, b) = Zbw l (1001, a, b))
    (hs : ∀ a b, src (1000, a, b) = some (1000, a, b) ∧ src (1001, a, b) = some (1001, a, b)) (h8 : h u8 = some anyB := by rfl) (h9 : h u9 = some anyB := by rfl) (hs8 : src u8 = some u8 := by rfl) (hs9 : src u9 = some u9 := by rfl) : ∀ j b, Zbw l j = some b → HOk src h h' j b := by
  intro j b e
  rcases treeT_some e with ⟨rfl, rfl⟩ | ⟨rfl, rfl⟩ | ⟨p, rfl, hp, rfl⟩ | ⟨p, q, rfl, hp, hq, rfl⟩
  · exact HOk.mk hs8 h8 (GB.one (.cons .any .nil) (fun e => by cases e))
  · exact HOk.mk hs9 h9 (GB.one (.cons .any .nil) (fun e => by cases e))
  · exact HOk.mk (hs p 0).1 ((hh p 0).1.trans (treeT_blk hp)) (Zcl (fun q hq => .cc (Zat hq) (Zat hq) (.rs ((hh' p q).2.trans (Zez hp hq)) (hs p q).2 rfl rfl)))
  · exact HOk.mk (hs p q).2 ((hh p q).2.trans (Zez hp hq)) (Zc2 _)
abbrev Zfq (l : List Func) (q : Nat) : List AV := [iv (l.getD q default).params, iv (l.getD q default).regs, mem1 l q]
theorem Zbh {src : Dv.Id → Option Dv.Id} {h h' : Zan} {l : List Func} {q : Nat} (hq : q < l.length) (hh' : h' (1000, q, 0) = Zbw l (1000, q, 0)) (hs : src (1000, q, 0) = some (1000, q, 0)) : GVs src h h' (Zfq l q) (Zfq l q) :=
  .cons (.imm rfl) (.cons (.imm rfl) (.cons (.rs (hh'.trans (treeT_blk hq)) hs rfl rfl) .nil))
abbrev frow (l : List Func) (n : Nat) (ρ : Nat → Nat) : Zam := .row false 3 n (fun x => Zfq l (ρ x))
abbrev HL (l : List Func) (ρ : Nat → Nat) (v : Int) (S : List Bool) (m x : Nat) : List (Dv.Id × Zam) := [(u0, frow l l.length ρ), (u1, nbox v), (u2, sbox S), (u7, .row false 3 m (fun _ => Zfq l x))]
theorem c_clo (l : List Func) (S : List Bool) (hS : S.length = l.length) (hm : l.length ≤ maxL) (ρ : Nat → Nat) (hρ : ∀ x, x < l.length → ρ x < l.length) (k q m x : Nat) (hk : k < l.length) (hq : q < l.length) (hx : 0 < m → x < l.length) :
    HG Try.prog (LM l) 96 (orH (Za2 (HL l ρ ((k : Int) - 1) S m x)) (Zbw l)) [.agg (Zfq l q), .bp u1 0, .bp u2 0] (.bool (!S.getD k false)) (orH (Za2 (HL l ρ k S m x)) (Zbw l)) := by
  refine HG_intro tok Try.func96 rfl (by decide +kernel) (Nat.le_of_ble_eq_true rfl) ?_
  refine AWp_after ?_
  have hmx : maxL = 4294967296 := rfl
  have hw : IntKind.i64.wrap ((k : Int) - 1 + 1) = k := by rw [Zaj (by omega) (by omega)]; omega
  (repeat' ((fail_if_success (show AWp _ _ _ (Code.region 2 _ _) _ _)); first | refine Zad ?_ | (refine Zac tok (by rfl) ?_; conv => whnf)))
  refine Za6 (τ := mkF [(1, .bp u1 0), (2, .bp u2 0)] (HL l ρ k S m x) (Zbw l)) ?_ ?_
  · refine Weak.fam [] rfl (fun i hi => by cases hi) (.cons (.bp rfl rfl) (.cons (.bp rfl rfl) .nil)) ?_ (keepT (fun _ _ => ⟨rfl, rfl⟩) (fun _ _ => ⟨rfl, rfl⟩) (fun _ _ => ⟨rfl, rfl⟩)) LM_ok
    refine .old rfl rfl (GB.row (Nat.le_refl _) (fun q hq => Zbh (hρ q hq) rfl rfl) (fun e => by cases e)) (.old rfl rfl (GB.one (.cons (.int hw) .nil) (fun _ => rfl)) (.old rfl rfl (GB.one (GVs.imm rfl) (fun _ => rfl)) (.old rfl rfl (GB.row (Nat.le_refl _) (fun q hq => Zbh (hx (by omega)) rfl rfl) (fun e => by cases e)) .nil)))
  ((repeat' first | (refine Zac tok (by rfl) ?_; conv => whnf) | (refine Zak ?_; conv => whnf) | (refine @And.intro (Zaa _ _ _ _) _ ?_ ?_; rotate_left; (conv => whnf); rotate_right)); all_goals (try ((guard_target = Zaa _ _ _ _); refine Zae ?_; (all_goals (try simp only [Zaa, kzz, kz11, kz12, maxL, Zab] at *)); all_goals omega)))
  refine ⟨mkF [(4, .bool (!S.getD k false))] (HL l ρ k S m x) (Zbw l), ?_, ⟨_, rfl, rfl, rfl⟩⟩
  refine Weak.fam [] rfl (fun i hi => by cases hi) (.cons (.imm rfl) .nil) ?_ (keepT (fun _ _ => ⟨rfl, rfl⟩) (fun _ _ => ⟨rfl, rfl⟩) (fun _ _ => ⟨rfl, rfl⟩)) LM_ok
  exact .old rfl rfl (GB.row (Nat.le_refl _) (fun q hq => Zbh (hρ q hq) rfl rfl) (fun e => by cases e)) (.old rfl rfl (GB.one (GVs.imm rfl) (fun _ => rfl)) (.old rfl rfl (GB.one (GVs.imm rfl) (fun _ => rfl)) (.old rfl rfl (GB.row (Nat.le_refl _) (fun q hq => Zbh (hx (by omega)) rfl rfl) (fun e => by cases e)) .nil)))
set_option maxHeartbeats 1000000 in
theorem c_IndexF (l : List Func) (S : List Bool) (hS : S.length = l.length) (hlm : l.length ≤ maxL) (e : Nat) (he : e ≤ l.length) (hpre : ∀ q, q < e → S.getD q false = true) (hend : e < l.length → S.getD e false = false) :
    HG Try.prog (LL l) 128 (orH (Za2 [(u0, frow l l.length (fun x => x)), (u1, nbox (-1)), (u2, sbox S)]) (Zbw l)) [.rs u0 3 0 l.length, .fn 96 [.bp u1 0, .bp u2 0]]
      (iv (if e < l.length then (e : Int) else -1)) (orH (Za2 [(u0, frow l l.length (fun x => x)), (u1, nbox (if e < l.length then (e : Int) else l.length - 1)), (u2, sbox S)]) (Zbw l)) := by
  refine HG_intro tok Try.func128 rfl (by decide +kernel) (Nat.le_of_ble_eq_true rfl) ?_
  refine AWp_after ?_
  have hmx : maxL = 4294967296 := rfl
  (repeat' first | refine Zad ?_ | (refine Zac tok (by rfl) ?_; conv => whnf) | refine Zaf ?_)
  refine Zas (fun i : Nat => mkF [(0, .rs u0 3 0 l.length), (1, .fn 96 [.bp u1 0, .bp u2 0]), (7, iv l.length), (8, iv i)] [((0, 7, 0), frow l l.length (fun x => x)), ((1, 7, 0), nbox ((i : Int) - 1)), ((2, 7, 0), sbox S)] (Zbw l)) (fun i => i ≤ e) (fun i => l.length - i) 0 (Nat.zero_le _) ?_ ?_
  · refine Weak.fam [] rfl (fun i hi => by cases hi) ?_ ?_ (keepT (fun _ _ => ⟨rfl, rfl⟩) (fun _ _ => ⟨rfl, rfl⟩) (fun _ _ => ⟨rfl, rfl⟩)) LL_ok
    · exact .cons (.rs rfl rfl rfl rfl) (.cons (.fn (.cons (.bp rfl rfl) (.cons (.bp rfl rfl) .nil))) (.cons (.imm rfl) (.cons (.imm rfl) .nil)))
    · exact .old rfl rfl (GB.row (Nat.le_refl _) (fun q hq => Zbh hq rfl rfl) (fun e => by cases e)) (.old rfl rfl (GB.one (GVs.imm rfl) (fun _ => rfl)) (.old rfl rfl (GB.one (GVs.imm rfl) (fun _ => rfl)) .nil))
  intro i hi
  (repeat' ((fail_if_success (show AWp _ _ _ (Code.region 3 _ _) _ _)); (fail_if_success (show AWp _ _ _ (Code.region 7 _ _) _ _)); first | refine Zad ?_ | (refine Zac tok (by rfl) ?_; conv => whnf) | refine Zaf ?_ | (refine Zai ?_; conv => whnf) | (refine Zar ?_; conv => whnf) | refine Zah rfl (fun hb => ?_) (fun hb => ?_)))
  · have hil : i < l.length := by simp only [decide_eq_true_eq] at hb; omega
    clear hb
    have hcall := c_clo l S hS hlm (fun x => x) (fun _ h => h) i i 0 0 hil hil (fun h => absurd h (Nat.lt_irrefl 0))
    have hzi : 0 + (i : Int).toNat = i := by simp
    ((repeat' first | refine Zad ?_ | (refine Zac tok (by rfl) ?_; conv => whnf) | (refine @And.intro (Zaa _ _ _ _) _ ?_ ?_; rotate_left; (conv => whnf); rotate_right)); all_goals (try ((guard_target = Zaa _ _ _ _); refine Zae ?_; (all_goals (try simp only [Zaa, kzz, kz11, kz12, maxL, Zab] at *)); all_goals omega)))
    refine .inr ⟨_, _, _, uG (QH.ofG (dead := []) hcall (srcL [(u7, none)]) (srcL_inj rfl (fun i hi => by cases hi)) ?_ ?_ ?_), ?_⟩
    · refine HLs_or ?_ (keepT (fun _ _ => ⟨rfl, rfl⟩) (fun _ _ => ⟨rfl, rfl⟩) (fun _ _ => ⟨rfl, rfl⟩))
      exact .old rfl rfl (GB.row (Nat.le_refl _) (fun q hq => Zbh hq rfl rfl) (fun e => by cases e)) (.old rfl rfl (GB.one (GVs.imm rfl) (fun _ => rfl)) (.old rfl rfl (GB.one (GVs.imm rfl) (fun _ => rfl)) (.new rfl .nil)))
    · refine .cons (.agg ?_) (.cons (.bp rfl rfl) (.cons (.bp rfl rfl) .nil))
      show GVs _ _ _ (Zfq l (0 + (i : Int).toNat)) (Zfq l i)
      rw [hzi]; exact Zbh hil rfl rfl
    · intro j hj
      obtain ⟨h1, h2⟩ := LL_all hj
      refine .inr ⟨LL_LM h1, LM_pin (LL_LM h1), ?_, (LM_ok j (LL_LM h1) (LM_pin (LL_LM h1))).1, (LM_ok j (LL_LM h1) (LM_pin (LL_LM h1))).1⟩
      exact Zb0 (fun e => h2 e.symm)
    conv => whnf
    (repeat' first | refine Zad ?_ | (refine Zac tok (by rfl) ?_; conv => whnf) | (refine Zai ?_; conv => whnf) | (refine Zak ?_; conv => whnf) | refine Zah rfl (fun hb => ?_) (fun hb => ?_))
    · have hf : S.getD i false = false := by simpa using hb
      have hie : i = e := by
        by_cases h : i < e
        · rw [hpre i h] at hf; cases hf
        · omega
      subst hie
      rw [if_pos hil, if_pos hil]
      refine ⟨mkF [(4, iv i)] [(u0, frow l l.length (fun x => x)), (u1, nbox i), (u2, sbox S)] (Zbw l), ?_, ⟨_, rfl, rfl, rfl⟩⟩
      refine Weak.fam [] rfl (fun i hi => by cases hi) (.cons (.imm rfl) .nil) ?_ (keepT (fun a b => ⟨?_, ?_⟩) (fun _ _ => ⟨rfl, rfl⟩) (fun _ _ => ⟨rfl, rfl⟩)) LL_ok
      · exact .old rfl rfl (GB.row (Nat.le_refl _) (fun q hq => Zbh hq rfl rfl) (fun e => by cases e)) (.old rfl rfl (GB.one (GVs.imm rfl) (fun _ => rfl)) (.old rfl rfl (GB.one (GVs.imm rfl) (fun _ => rfl)) .nil))
      · exact Zca (u := orH (Za2 (HL l (fun x => x) i S 0 0)) (Zbw l)) rfl
      · exact Zca (u := orH (Za2 (HL l (fun x => x) i S 0 0)) (Zbw l)) rfl
    · have hf : S.getD i false = true := by simpa using hb
      have hie : i < e := by
        by_cases h : i = e
        · subst h; rw [hend hil] at hf; cases hf
        · omega
      refine ⟨i + 1, hie, by omega, ?_⟩
      refine Weak.fam [] rfl (fun i hi => by cases hi) ?_ ?_ (keepT (fun a b => ⟨?_, ?_⟩) (fun _ _ => ⟨rfl, rfl⟩) (fun _ _ => ⟨rfl, rfl⟩)) LL_ok
      · exact .cons (.rs rfl rfl rfl rfl) (.cons (.fn (.cons (.bp rfl rfl) (.cons (.bp rfl rfl) .nil))) (.cons (.imm rfl) (.cons (.int (by rw [Zaj (by omega) (by omega)]; rfl)) .nil)))
      · refine .old rfl rfl (GB.row (Nat.le_refl _) (fun q hq => Zbh hq rfl rfl) (fun e => by cases e)) (.old rfl rfl (GB.one (.cons (.int ?_) .nil) (fun _ => rfl)) (.old rfl rfl (GB.one (GVs.imm rfl) (fun _ => rfl)) .nil))
        show (i : Int) = ((i + 1 : Nat) : Int) - 1
        omega
      · exact Zca (u := orH (Za2 (HL l (fun x => x) i S 0 0)) (Zbw l)) rfl
      · exact Zca (u := orH (Za2 (HL l (fun x => x) i S 0 0)) (Zbw l)) rfl
  · have hil : i = l.length := by simp only [decide_eq_false_iff_not] at hb; omega
    clear hb
    have hie : e = l.length := by omega
    subst hil
    rw [if_neg (by omega), if_neg (by omega)]
    (repeat' first | (refine Zac tok (by rfl) ?_; conv => whnf) | (refine Zak ?_; conv => whnf))
    refine ⟨mkF [(4, iv (-1))] [(u0, frow l l.length (fun x => x)), (u1, nbox ((l.length : Int) - 1)), (u2, sbox S)] (Zbw l), ?_, ⟨_, rfl, rfl, rfl⟩⟩
    refine Weak.fam [] rfl (fun i hi => by cases hi) (.cons (.imm rfl) .nil) ?_ (keepT (fun a b => ⟨rfl, rfl⟩) (fun _ _ => ⟨rfl, rfl⟩) (fun _ _ => ⟨rfl, rfl⟩)) LL_ok
    exact .old rfl rfl (GB.row (Nat.le_refl _) (fun q hq => Zbh hq rfl rfl) (fun e => by cases e)) (.old rfl rfl (GB.one (GVs.imm rfl) (fun _ => rfl)) (.old rfl rfl (GB.one (GVs.imm rfl) (fun _ => rfl)) .nil))
theorem first_no (S : List Bool) : ∀ n, ∃ e, e ≤ n ∧ (∀ q, q < e → S.getD q false = true) ∧ (e < n → S.getD e false = false)
  | 0 => ⟨0, Nat.le_refl _, fun q h => absurd h (Nat.not_lt_zero q), fun h => absurd h (Nat.lt_irrefl 0)⟩
  | n + 1 => by
      obtain ⟨e, h1, h2, h3⟩ := first_no S n
      by_cases h : e < n
      · exact ⟨e, by omega, h2, fun _ => h3 h⟩
      · have : e = n := by omega
        subst this
        cases hc : S.getD e false with
        | false => exact ⟨e, by omega, h2, fun _ => hc⟩
        | true => exact ⟨e + 1, Nat.le_refl _, fun q hq => by
            by_cases hqe : q = e
            · subst hqe; exact hc
            · exact h2 q (by omega), fun h => absurd h (Nat.lt_irrefl _)⟩
theorem keptN_all {S : List Bool} : ∀ e, (∀ q, q < e → S.getD q false = true) → Zav S e = List.range e
  | 0, _ => rfl
  | e + 1, h => by rw [keptN_yes (h e (Nat.lt_succ_self e)), keptN_all e (fun q hq => h q (by omega)), List.range_succ]
theorem LL_ne {l : List Func} {i : Dv.Id} (h : i ∈ LL l) : u7 ≠ i := by
  unfold LL at h
  rcases List.mem_cons.1 h with rfl | h
  · decide
  rcases List.mem_cons.1 h with rfl | h
  · decide
  rcases List.mem_cons.1 h with rfl | h
  · decide
  · exact (Ze7 h).2.2.2.2.2
theorem LE_ok {l : List Func} {a b c d : Zam} {o : Option Dv.Id} : ∀ i ∈ LL l, pinId i = true → (orH (Za2 [(u0, a), (u1, b), (u2, c), (u7, d)]) (Zbw l) i).isSome = true ∧ srcL [(u7, o)] i = some i :=
  fun i hi hp => ⟨(LM_ok i (LL_LM hi) hp).1, Zb0 (LL_ne hi)⟩
structure DI (S : List Bool) (n j : Nat) (ρ : Nat → Nat) : Prop where
  hj : j ≤ n
  lt : (Zav S j).length < j
  lo : ∀ x, x < (Zav S j).length → ρ x = (Zav S j).getD x 0
  hi : ∀ x, j ≤ x → x < n → ρ x = x
  rg : ∀ x, x < n → ρ x < n
theorem DI.yes {S : List Bool} {n j : Nat} {ρ : Nat → Nat} (h : DI S n j ρ) (hj : j < n) (hs : S.getD j false = true) : DI S n (j + 1) (fun x => bif Nat.beq (Zav S j).length x then j else ρ x) := by
  have hlt := h.lt
  refine ⟨hj, by rw [Zd0 hs]; omega, fun x hx => ?_, fun x hx hn => ?_, fun x hx => ?_⟩
  · rw [Zd0 hs] at hx
    by_cases e : x < (Zav S j).length
    · have : Nat.beq (Zav S j).length x = false := by rw [Bool.eq_false_iff]; intro h; have := Nat.eq_of_beq_eq_true h; omega
      simp only [this, cond_false]
      rw [kept_lo hs e]; exact h.lo x e
    · have : x = (Zav S j).length := by omega
      subst this
      rw [kept_hi hs]; simp
  · have : Nat.beq (Zav S j).length x = false := by rw [Bool.eq_false_iff]; intro h; have := Nat.eq_of_beq_eq_true h; omega
    simp only [this, cond_false]
    exact h.hi x (by omega) hn
  · cases Nat.beq (Zav S j).length x with
    | true => exact hj
    | false => exact h.rg x hx
theorem DI.no {S : List Bool} {n j : Nat} {ρ : Nat → Nat} (h : DI S n j ρ) (hj : j < n) (hs : S.getD j false = false) : DI S n (j + 1) ρ := by
  have hlt := h.lt
  exact ⟨hj, by rw [Zd1 hs]; omega, by rw [Zd1 hs]; exact h.lo, fun x hx hn => h.hi x (by omega) hn, h.rg⟩
set_option maxHeartbeats 2000000 in
theorem c_DelF (l : List Func) (S : List Bool) (hS : S.length = l.length) (hlm : l.length ≤ maxL) :
    HG Try.prog (LL l) 95 (orH (Za2 [(u0, frow l l.length (fun x => x)), (u1, nbox (-1)), (u2, sbox S)]) (Zbw l)) [.rs u0 3 0 l.length, .fn 96 [.bp u1 0, .bp u2 0]]
      (.rs u0 3 0 (Zav S l.length).length) (orH (Za2 [(u0, frow l (Zav S l.length).length (fun x => (Zav S l.length).getD x 0)), (u1, nbox ((l.length : Int) - 1)), (u2, sbox S)]) (Zbw l)) := by
  refine HG_intro tok Try.func95 rfl (by decide +kernel) (Nat.le_of_ble_eq_true rfl) ?_
  refine AWp_after ?_
  have hmx : maxL = 4294967296 := rfl
  obtain ⟨e, he, hpre, hend⟩ := first_no S l.length
  have hcall := c_IndexF l S hS hlm e he hpre hend
  have hka := keptN_all e hpre
  (repeat' first | refine Zad ?_ | (refine Zac tok (by rfl) ?_; conv => whnf))
  refine .inr ⟨_, _, _, uG (QH.ofG (dead := []) hcall (srcL []) (srcL_inj rfl (fun i hi => by cases hi)) ?_ ?_ ?_), ?_⟩
  · refine HLs_or ?_ (keepT (fun _ _ => ⟨rfl, rfl⟩) (fun _ _ => ⟨rfl, rfl⟩) (fun _ _ => ⟨rfl, rfl⟩))
    exact .old rfl rfl (GB.row (Nat.le_refl _) (fun q hq => Zbh hq rfl rfl) (fun e => by cases e)) (.old rfl rfl (GB.one (GVs.imm rfl) (fun _ => rfl)) (.old rfl rfl (GB.one (GVs.imm rfl) (fun _ => rfl)) .nil))
  · exact .cons (.rs rfl rfl rfl rfl) (.cons (.fn (.cons (.bp rfl rfl) (.cons (.bp rfl rfl) .nil))) .nil)
  · intro j hj
    obtain ⟨h1, h2⟩ := LL_all hj
    exact .inr ⟨h1, LM_pin (LL_LM h1), rfl, (LL_ok j h1 (LM_pin (LL_LM h1))).1, (LL_ok j h1 (LM_pin (LL_LM h1))).1⟩
  clear hcall
  by_cases hen : e < l.length
  · rw [if_pos hen, if_pos hen]
    have hke : Zav S (e + 1) = Zav S e := Zd1 (hend hen)
    have hkl : (Zav S (e + 1)).length = e := by rw [hke, hka, List.length_range]
    conv => whnf
    (repeat' first | refine Zad ?_ | (refine Zac tok (by rfl) ?_; conv => whnf) | refine Zaf ?_ | (refine Zai ?_; conv => whnf) | (refine Zak ?_; conv => whnf) | refine Zah rfl (fun hb => ?_) (fun hb => ?_))
    · exfalso; simp at hb
    clear hb
    refine Zas (fun s : Nat × (Nat → Nat) => mkF [(0, .rs u0 3 0 l.length), (1, .fn 96 [.bp u1 0, .bp u2 0]), (5, iv (Zav S s.1).length), (6, iv s.1)] [((0, 7, 0), frow l l.length s.2), ((1, 7, 0), nbox ((s.1 : Int) - 1)), ((2, 7, 0), sbox S)] (Zbw l)) (fun s => DI S l.length s.1 s.2) (fun s => l.length - s.1) (e + 1, fun x => x) ?_ ?_ ?_
    · refine ⟨hen, by rw [hkl]; exact Nat.lt_succ_self e, fun x hx => ?_, fun _ _ _ => rfl, fun _ h => h⟩
      rw [hkl] at hx
      show x = (Zav S (e + 1)).getD x 0
      rw [hke, hka]; simp [List.getD_eq_getElem?_getD, hx]
    · refine Weak.fam [] rfl (fun i hi => by cases hi) ?_ ?_ (keepT (fun a b => ⟨?_, ?_⟩) (fun _ _ => ⟨rfl, rfl⟩) (fun _ _ => ⟨rfl, rfl⟩)) LL_ok
      · refine .cons (.rs rfl rfl rfl rfl) (.cons (.fn (.cons (.bp rfl rfl) (.cons (.bp rfl rfl) .nil))) (.cons (.int ?_) (.cons (.int ?_) .nil)))
        · show (e : Int) = ((Zav S (e + 1)).length : Int)
          rw [hkl]
        · rw [Zaj (by omega) (by omega)]; rfl
      · refine .old rfl rfl (GB.row (Nat.le_refl _) (fun q hq => Zbh hq rfl rfl) (fun e => by cases e)) (.old rfl rfl (GB.one (.cons (.int ?_) .nil) (fun _ => rfl)) (.old rfl rfl (GB.one (GVs.imm rfl) (fun _ => rfl)) .nil))
        show (e : Int) = ((e + 1 : Nat) : Int) - 1
        omega
      · exact Zca (u := orH (Za2 [(u0, frow l l.length (fun x => x)), (u1, nbox (e : Int)), (u2, sbox S)]) (Zbw l)) rfl
      · exact Zca (u := orH (Za2 [(u0, frow l l.length (fun x => x)), (u1, nbox (e : Int)), (u2, sbox S)]) (Zbw l)) rfl
    rintro ⟨j, ρ⟩ hI
    replace hI : DI S l.length j ρ := hI
    have hjl0 := hI.hj
    have hlt := hI.lt
    have hrg := hI.rg
    show AWp _ _ _ _ _ (mkF [(0, .rs u0 3 0 l.length), (1, .fn 96 [.bp u1 0, .bp u2 0]), (5, iv (Zav S j).length), (6, iv j)] [((0, 7, 0), frow l l.length ρ), ((1, 7, 0), nbox ((j : Int) - 1)), ((2, 7, 0), sbox S)] (Zbw l))
    (repeat' ((fail_if_success (show AWp _ _ _ (Code.region 7 _ _) _ _)); (fail_if_success (show AWp _ _ _ (Code.region 11 _ _) _ _)); first | refine Zad ?_ | (refine Zac tok (by rfl) ?_; conv => whnf) | refine Zaf ?_ | (refine Zai ?_; conv => whnf) | (refine Zar ?_; conv => whnf) | refine Zah rfl (fun hb => ?_) (fun hb => ?_)))
    · have hj : j < l.length := by simp only [decide_eq_true_eq] at hb; omega
      clear hb
      have hzj : 0 + (j : Int).toNat = j := by simp
      ((repeat' ((fail_if_success (show AWp _ _ _ (Code.region 8 _ _) _ _)); first | refine Zad ?_ | (refine Zac tok (by rfl) ?_; conv => whnf) | (refine @And.intro (Zaa _ _ _ _) _ ?_ ?_; rotate_left; (conv => whnf); rotate_right))); all_goals (try ((guard_target = Zaa _ _ _ _); refine Zae ?_; (all_goals (try simp only [Zaa, kzz, kz11, kz12, maxL, Zab] at *)); all_goals omega)))
      refine Za6 (Weak.fam (L := LL l) (tl := [(0, .rs u0 3 0 l.length), (1, .fn 96 [.bp u1 0, .bp u2 0]), (5, iv (Zav S j).length), (6, iv j), (7, .bp u7 0)]) (hl := [((0, 7, 0), frow l l.length ρ), ((1, 7, 0), nbox ((j : Int) - 1)), ((2, 7, 0), sbox S), ((7, 7, 0), .row false 3 1 (fun _ => Zfq l j))]) (F := (Zbw l)) [(u7, some (7, 0, 0))] rfl (fun c hc => by simp only [tgts, List.mem_singleton] at hc; subst hc; exact .inl rfl) ?_ ?_ ?_ LE_ok) ?_
      · exact .cons (.rs rfl rfl rfl rfl) (.cons (.fn (.cons (.bp rfl rfl) (.cons (.bp rfl rfl) .nil))) (.cons (.imm rfl) (.cons (.imm rfl) (.cons (.bp rfl rfl) .nil))))
      · refine .old rfl rfl (GB.row (Nat.le_refl _) (fun q hq => Zbh (hrg q hq) rfl rfl) (fun e => by cases e)) (.old rfl rfl (GB.one (GVs.imm rfl) (fun _ => rfl)) (.old rfl rfl (GB.one (GVs.imm rfl) (fun _ => rfl)) (.old rfl rfl (GB.one ?_ (fun e => by cases e)) .nil)))
        show GVs _ _ _ (Zfq l (ρ (0 + (j : Int).toNat))) (Zfq l j)
        rw [hzj, hI.hi j (Nat.le_refl _) hj]
        exact Zbh hj rfl rfl
      · exact (keepT (fun _ _ => ⟨rfl, rfl⟩) (fun _ _ => ⟨rfl, rfl⟩) (fun _ _ => ⟨rfl, rfl⟩))
      have hcall := c_clo l S hS hlm ρ hrg j j 1 j hj hj (fun _ => hj)
      (repeat' (refine Zac tok (by rfl) ?_; conv => whnf))
      refine .inr ⟨_, _, _, uG (QH.ofG (dead := []) hcall (srcL []) (srcL_inj rfl (fun i hi => by cases hi)) ?_ ?_ ?_), ?_⟩
      · refine HLs_or ?_ (keepT (fun _ _ => ⟨rfl, rfl⟩) (fun _ _ => ⟨rfl, rfl⟩) (fun _ _ => ⟨rfl, rfl⟩))
        exact .old rfl rfl (GB.row (Nat.le_refl _) (fun q hq => Zbh (hrg q hq) rfl rfl) (fun e => by cases e)) (.old rfl rfl (GB.one (GVs.imm rfl) (fun _ => rfl)) (.old rfl rfl (GB.one (GVs.imm rfl) (fun _ => rfl)) (.old rfl rfl (GB.one (Zbh hj rfl rfl) (fun e => by cases e)) .nil)))
      · exact .cons (.agg (Zbh hj rfl rfl)) (.cons (.bp rfl rfl) (.cons (.bp rfl rfl) .nil))
      · intro i hi
        have h1 := LM_all hi
        exact .inr ⟨h1, LM_pin h1, rfl, (LM_ok i h1 (LM_pin h1)).1, (LM_ok i h1 (LM_pin h1)).1⟩
      conv => whnf
      ((repeat' first | refine Zad ?_ | (refine Zac tok (by rfl) ?_; conv => whnf) | (refine Zai ?_; conv => whnf) | refine Zah rfl (fun hb => ?_) (fun hb => ?_) | (refine @And.intro (Zaa _ _ _ _) _ ?_ ?_; rotate_left; (conv => whnf); rotate_right)); all_goals (try ((guard_target = Zaa _ _ _ _); refine Zae ?_; (all_goals (try simp only [Zaa, kzz, kz11, kz12, maxL, Zab] at *)); all_goals omega)))
      · have hs : S.getD j false = true := by simpa using hb
        clear hb
        refine ⟨(j + 1, fun x => bif Nat.beq (Zav S j).length x then j else ρ x), hI.yes hj hs, by simp only; omega, ?_⟩
        refine Weak.fam [] rfl (fun i hi => by cases hi) ?_ ?_ (keepT (fun a b => ⟨?_, ?_⟩) (fun _ _ => ⟨rfl, rfl⟩) (fun _ _ => ⟨rfl, rfl⟩)) LL_ok
        · refine .cons (.rs rfl rfl rfl rfl) (.cons (.fn (.cons (.bp rfl rfl) (.cons (.bp rfl rfl) .nil))) (.cons (.int ?_) (.cons (.int ?_) .nil)))
          · rw [Zaj (by omega) (by omega)]
            show ((Zav S j).length : Int) + 1 = ((Zav S (j + 1)).length : Int)
            rw [Zd0 hs]; rfl
          · rw [Zaj (by omega) (by omega)]; rfl
        · refine .old rfl rfl (GB.row (Nat.le_refl _) (fun q hq => GVs.upd (fun e => ?_) (fun e => ?_)) (fun e => by cases e)) (.old rfl rfl (GB.one (.cons (.int ?_) .nil) (fun _ => rfl)) (.old rfl rfl (GB.one (GVs.imm rfl) (fun _ => rfl)) .nil))
          · have e' : q = (Zav S j).length := by rw [e, Nat.zero_add, Int.toNat_natCast]
            show GVs _ _ _ (Zfq l j) (Zfq l (bif Nat.beq (Zav S j).length q then j else ρ q))
            rw [e']
            have : Nat.beq (Zav S j).length (Zav S j).length = true := by simp
            rw [this]
            exact Zbh hj rfl rfl
          · have e' : Nat.beq (Zav S j).length q = false := by rw [Bool.eq_false_iff]; intro h; have := Nat.eq_of_beq_eq_true h; exact e (by rw [Nat.zero_add, Int.toNat_natCast]; exact this.symm)
            show GVs _ _ _ (Zfq l (ρ q)) (Zfq l (bif Nat.beq (Zav S j).length q then j else ρ q))
            rw [e']
            exact Zbh (hrg q hq) rfl rfl
          · show (j : Int) = ((j + 1 : Nat) : Int) - 1
            omega
        · exact Zca (u := orH (Za2 (HL l ρ (j : Int) S 1 j)) (Zbw l)) (h := orH (Za2 (HL l ρ ((j : Int) - 1) S 1 j)) (Zbw l)) rfl
        · exact Zca (u := orH (Za2 (HL l ρ (j : Int) S 1 j)) (Zbw l)) (h := orH (Za2 (HL l ρ ((j : Int) - 1) S 1 j)) (Zbw l)) rfl
      · have hs : S.getD j false = false := by simpa using hb
        clear hb
        refine ⟨(j + 1, ρ), hI.no hj hs, by simp only; omega, ?_⟩
        refine Weak.fam [] rfl (fun i hi => by cases hi) ?_ ?_ (keepT (fun a b => ⟨?_, ?_⟩) (fun _ _ => ⟨rfl, rfl⟩) (fun _ _ => ⟨rfl, rfl⟩)) LL_ok
        · refine .cons (.rs rfl rfl rfl rfl) (.cons (.fn (.cons (.bp rfl rfl) (.cons (.bp rfl rfl) .nil))) (.cons (.int ?_) (.cons (.int ?_) .nil)))
          · show ((Zav S j).length : Int) = ((Zav S (j + 1)).length : Int)
            rw [Zd1 hs]
          · rw [Zaj (by omega) (by omega)]; rfl
        · refine .old rfl rfl (GB.row (Nat.le_refl _) (fun q hq => Zbh (hrg q hq) rfl rfl) (fun e => by cases e)) (.old rfl rfl (GB.one (.cons (.int ?_) .nil) (fun _ => rfl)) (.old rfl rfl (GB.one (GVs.imm rfl) (fun _ => rfl)) .nil))
          show (j : Int) = ((j + 1 : Nat) : Int) - 1
          omega
        · exact Zca (u := orH (Za2 (HL l ρ (j : Int) S 1 j)) (Zbw l)) rfl
        · exact Zca (u := orH (Za2 (HL l ρ (j : Int) S 1 j)) (Zbw l)) rfl
    · have hj : j = l.length := by simp only [decide_eq_false_iff_not] at hb; omega
      clear hb
      subst hj
      ((repeat' first | refine Zad ?_ | (refine Zac tok (by rfl) ?_; conv => whnf) | (refine Zak ?_; conv => whnf) | (refine @And.intro (Zaa _ _ _ _) _ ?_ ?_; rotate_left; (conv => whnf); rotate_right)); all_goals (try ((guard_target = Zaa _ _ _ _); refine Zae ?_; (all_goals (try simp only [Zaa, kzz, kz11, kz12, maxL, Zab] at *)); all_goals omega)))
      refine ⟨mkF [(4, .rs u0 3 0 (Zav S l.length).length)] [(u0, frow l (Zav S l.length).length (fun x => (Zav S l.length).getD x 0)), (u1, nbox ((l.length : Int) - 1)), (u2, sbox S)] (Zbw l), ?_, ⟨_, rfl, rfl, rfl⟩⟩
      refine Weak.fam [] rfl (fun i hi => by cases hi) ?_ ?_ (keepT (fun a b => ⟨?_, ?_⟩) (fun _ _ => ⟨rfl, rfl⟩) (fun _ _ => ⟨rfl, rfl⟩)) LL_ok
      · exact .cons (.rs rfl rfl rfl rfl) .nil
      · refine .old rfl rfl (GB.row (by omega) (fun q hq => ?_) (fun e => by cases e)) (.old rfl rfl (GB.one (GVs.imm rfl) (fun _ => rfl)) (.old rfl rfl (GB.one (GVs.imm rfl) (fun _ => rfl)) .nil))
        show GVs _ _ _ (bif inRow (0 + (Zav S l.length).length) (l.length - (Zav S l.length).length) q then [iv 0, iv 0, .nsl] else Zfq l (ρ q)) (Zfq l ((Zav S l.length).getD q 0))
        cases e2 : inRow (0 + (Zav S l.length).length) (l.length - (Zav S l.length).length) q with
        | true => have := Ze6.1 e2; omega
        | false =>
          rw [hI.lo q hq]
          exact Zbh (Zcr hq) rfl rfl
      · rfl
      · rfl
  · rw [if_neg hen, if_neg hen]
    have hen2 : e = l.length := by omega
    subst hen2
    conv => whnf
    (repeat' first | refine Zad ?_ | (refine Zac tok (by rfl) ?_; conv => whnf) | refine Zaf ?_ | (refine Zai ?_; conv => whnf) | (refine Zak ?_; conv => whnf) | refine Zah rfl (fun hb => ?_) (fun hb => ?_))
    · refine ⟨mkF [(4, .rs u0 3 0 (Zav S l.length).length)] [(u0, frow l (Zav S l.length).length (fun x => (Zav S l.length).getD x 0)), (u1, nbox ((l.length : Int) - 1)), (u2, sbox S)] (Zbw l), ?_, ⟨_, rfl, rfl, rfl⟩⟩
      refine Weak.fam [] rfl (fun i hi => by cases hi) ?_ ?_ (keepT (fun a b => ⟨?_, ?_⟩) (fun _ _ => ⟨rfl, rfl⟩) (fun _ _ => ⟨rfl, rfl⟩)) LL_ok
      · exact .cons (.rs rfl rfl rfl (by rw [hka, List.length_range])) .nil
      · refine .old rfl rfl (GB.row (by rw [hka, List.length_range]; exact Nat.le_refl _) (fun q hq => ?_) (fun e => by cases e)) (.old rfl rfl (GB.one (GVs.imm rfl) (fun _ => rfl)) (.old rfl rfl (GB.one (GVs.imm rfl) (fun _ => rfl)) .nil))
        have hq' : q < l.length := by rw [hka, List.length_range] at hq; exact hq
        show GVs _ _ _ (Zfq l q) (Zfq l ((Zav S l.length).getD q 0))
        have : (Zav S l.length).getD q 0 = q := by rw [hka]; simp [List.getD_eq_getElem?_getD, hq']
        rw [this]
        exact Zbh hq' rfl rfl
      · exact Zca (u := orH (Za2 [(u0, frow l l.length (fun x => x)), (u1, nbox ((l.length : Int) - 1)), (u2, sbox S)]) (Zbw l)) rfl
      · exact Zca (u := orH (Za2 [(u0, frow l l.length (fun x => x)), (u1, nbox ((l.length : Int) - 1)), (u2, sbox S)]) (Zbw l)) rfl
    · exact absurd hb (by decide)
end Go.Proofs.Ytmanpbgaihdalaa
namespace Go.Proofs.Ytmanpbgaihdalaa
open Go Dv
set_option maxRecDepth 10000
set_option linter.unusedSimpArgs false
def Zaz (l : List Ins) : List Int := (l.filter fun x => decide (x.op = 11)).map (·.f)
def Zcj (b : Zbd) : List Int := Zaz b.ins ++ if b.fin.kind = 4 then [b.fin.f] else []
def Zal (l : List Zbd) : List Int := l.flatMap Zcj
theorem insCalls_yes {l : List Ins} {j : Nat} (h : j < l.length) (e : (l.getD j default).op = 11) : Zaz (l.take (j + 1)) = Zaz (l.take j) ++ [(l.getD j default).f] := by
  unfold Zaz; rw [Zcm default h]; generalize l.getD j default = x at e ⊢; simp [List.filter_append, List.filter_cons, e]
theorem insCalls_no {l : List Ins} {j : Nat} (h : j < l.length) (e : ¬ (l.getD j default).op = 11) : Zaz (l.take (j + 1)) = Zaz (l.take j) := by
  unfold Zaz; rw [Zcm default h]; generalize l.getD j default = x at e ⊢; simp [List.filter_append, List.filter_cons, e]
theorem funCalls_succ {l : List Zbd} {k : Nat} (h : k < l.length) : Zal (l.take (k + 1)) = Zal (l.take k) ++ Zcj (l.getD k default) := by
  unfold Zal; rw [Zcm default h, List.flatMap_append]; simp
inductive CR (l : List Func) : Nat → Prop where
  | zero : 0 < l.length → CR l 0
  | step {n : Nat} {x : Int} : CR l n → n < l.length → x ∈ Zal (l.getD n default).blocks → CR l x.toNat
open Classical in
noncomputable def usedL (l : List Func) : List Bool := (List.range l.length).map fun i => decide (CR l i)
theorem usedL_len (l : List Func) : (usedL l).length = l.length := by simp [usedL]
open Classical in
theorem usedL_at {l : List Func} {i : Nat} (h : i < l.length) : (usedL l).getD i false = decide (CR l i) := by
  unfold usedL; rw [List.getD_eq_getElem?_getD, List.getElem?_map, List.getElem?_range h]; rfl
def wt (l : List Func) (out : List Bool) : Nat := ((List.range l.length).map fun i => bif out.getD i false then 0 else (Zal (l.getD i default).blocks).length + 1).sum
structure UI (l : List Func) (out : List Bool) (td : List Int) : Prop where
  len : out.length = l.length
  snd : ∀ i, out.getD i false = true → CR l i
  rng : ∀ x ∈ td, 0 ≤ x ∧ x < l.length ∧ CR l x.toNat
  cls : ∀ i, i < l.length → out.getD i false = true → ∀ x ∈ Zal (l.getD i default).blocks, out.getD x.toNat false = true ∨ x ∈ td
  zer : out.getD 0 false = true ∨ (0 : Int) ∈ td
  bnd : wt l out + td.length ≤ wt l (List.replicate l.length false) + 1
theorem UI.init {l : List Func} (h0 : 0 < l.length) : UI l (List.replicate l.length false) [0] := by
  refine ⟨by simp, fun i h => ?_, fun x hx => ?_, fun i hi h => ?_, .inr (by simp), by simp⟩
  · rw [List.getD_eq_getElem?_getD, List.getElem?_replicate] at h
    split at h <;> cases h
  · rw [List.mem_singleton] at hx; subst hx; exact ⟨Int.le_refl _, by omega, .zero h0⟩
  · rw [List.getD_eq_getElem?_getD, List.getElem?_replicate] at h
    split at h <;> cases h
theorem Zfi {l : List Bool} {i j : Nat} (hi : i < l.length) : (l.set i true).getD j false = bif Nat.beq i j then true else l.getD j false := by
  rw [List.getD_eq_getElem?_getD, List.getElem?_set, List.getD_eq_getElem?_getD]
  by_cases e : i = j
  · subst e; simp [hi]
  · have : Nat.beq i j = false := by rw [Bool.eq_false_iff]; intro h; exact e (Nat.eq_of_beq_eq_true h)
    rw [if_neg e, this]; rfl
theorem sum_split {n i : Nat} (hi : i < n) (f g : Nat → Nat) (c : Nat) (h1 : f i = g i + c) (h2 : ∀ j, j ≠ i → f j = g j) : ((List.range n).map f).sum = ((List.range n).map g).sum + c := by
  induction n with
  | zero => omega
  | succ n ih =>
    rw [List.range_succ, List.map_append, List.map_append, List.sum_append, List.sum_append]
    simp only [List.map_cons, List.map_nil, List.sum_cons, List.sum_nil, Nat.add_zero]
    by_cases e : i = n
    · subst e
      have : (List.range i).map f = (List.range i).map g := List.map_congr_left fun j hj => h2 j (by rw [List.mem_range] at hj; omega)
      rw [this]; omega
    · have := ih (by omega)
      have h3 := h2 n (by omega)
      omega
theorem wt_set {l : List Func} {out : List Bool} {i : Nat} (hi : i < l.length) (hl : out.length = l.length) (h : out.getD i false = false) : wt l out = wt l (out.set i true) + ((Zal (l.getD i default).blocks).length + 1) := by
  unfold wt
  refine sum_split hi _ _ _ ?_ (fun j hj => ?_)
  · rw [h, Zfi (by omega)]; simp
  · rw [Zfi (by omega)]
    have : Nat.beq i j = false := by rw [Bool.eq_false_iff]; intro h; exact hj (Nat.eq_of_beq_eq_true h).symm
    rw [this]; rfl
theorem UI.skip {l : List Func} {out : List Bool} {x : Int} {td : List Int} (h : UI l out (x :: td)) (hx : out.getD x.toNat false = true) : UI l out td := by
  have hr := h.rng x (by simp)
  refine ⟨h.len, h.snd, fun y hy => h.rng y (by simp [hy]), fun i hi ho y hy => ?_, ?_, ?_⟩
  · rcases h.cls i hi ho y hy with h1 | h1
    · exact .inl h1
    · rcases List.mem_cons.1 h1 with h2 | h2
      · subst h2; exact .inl hx
      · exact .inr h2
  · rcases h.zer with h1 | h1
    · exact .inl h1
    · rcases List.mem_cons.1 h1 with h2 | h2
      · subst h2; exact .inl hx
      · exact .inr h2
  · have := h.bnd; simp at this; omega
theorem UI.take {l : List Func} {out : List Bool} {x : Int} {td : List Int} (h : UI l out (x :: td)) (hx : out.getD x.toNat false = false) (hok : ∀ n, n < l.length → ∀ y ∈ Zal (l.getD n default).blocks, 0 ≤ y ∧ y < l.length) :
    UI l (out.set x.toNat true) (td ++ Zal (l.getD x.toNat default).blocks) := by
  have hr := h.rng x (by simp)
  have hxl : x.toNat < l.length := by omega
  have hxo : x.toNat < out.length := by rw [h.len]; exact hxl
  have key : ∀ j, out.getD j false = true → (out.set x.toNat true).getD j false = true := fun j hj => by rw [Zfi hxo, hj]; simp
  have hit : (out.set x.toNat true).getD x.toNat false = true := by rw [Zfi hxo]; simp
  refine ⟨by simp [h.len], fun i hi => ?_, fun y hy => ?_, fun i hi ho y hy => ?_, ?_, ?_⟩
  · rw [Zfi hxo] at hi
    cases e : Nat.beq x.toNat i with
    | true => have := Nat.eq_of_beq_eq_true e; subst this; exact hr.2.2
    | false => rw [e] at hi; exact h.snd i hi
  · rcases List.mem_append.1 hy with h1 | h1
    · exact h.rng y (by simp [h1])
    · have h2 := hok _ hxl y h1
      exact ⟨h2.1, h2.2, .step hr.2.2 hxl h1⟩
  · by_cases e : i = x.toNat
    · subst e; exact .inr (List.mem_append_right _ hy)
    · rw [Zfi hxo] at ho
      have : Nat.beq x.toNat i = false := by rw [Bool.eq_false_iff]; intro h; exact e (Nat.eq_of_beq_eq_true h).symm
      rw [this] at ho
      rcases h.cls i hi ho y hy with h1 | h1
      · exact .inl (key _ h1)
      · rcases List.mem_cons.1 h1 with h2 | h2
        · subst h2; exact .inl hit
        · exact .inr (List.mem_append_left _ h2)
  · rcases h.zer with h1 | h1
    · exact .inl (key _ h1)
    · rcases List.mem_cons.1 h1 with h2 | h2
      · subst h2; exact .inl hit
      · exact .inr (List.mem_append_left _ h2)
  · have h1 := h.bnd
    have h2 := wt_set hxl h.len hx
    rw [List.length_cons] at h1
    rw [List.length_append]
    omega
open Classical in
theorem UI.done {l : List Func} {out : List Bool} (h : UI l out []) : out = usedL l := by
  apply Zbl false (by rw [h.len, usedL_len])
  intro i hi
  rw [h.len] at hi
  rw [usedL_at hi, Bool.eq_iff_iff, decide_eq_true_eq]
  refine ⟨h.snd i, fun hc => ?_⟩
  clear hi
  induction hc with
  | zero h0 => rcases h.zer with h1 | h1
               · exact h1
               · cases h1
  | step h1 h2 h3 ih =>
    rcases h.cls _ h2 ih _ h3 with h4 | h4
    · exact h4
    · cases h4
theorem st_rowW {p td : List Int} {y : Int} {s' q : Nat} {F g : Nat → List AV} (hs : s' = 0 ∨ s' = p.length) (hF : ∀ i, F i = [iv ((p ++ td).getD (p.length - s' + i) 0)]) (hg : g 0 = [iv y]) (hq : q < s' + td.length + 1) :
    Wks (appR (s' + td.length) F g q) [iv ((p.drop (p.length - s') ++ (td ++ [y])).getD q 0)] := by
  have hl : (p.drop (p.length - s')).length = s' := by rw [List.length_drop]; omega
  have hd : (p ++ td).drop (p.length - s') = p.drop (p.length - s') ++ td := List.drop_append_of_le_length (by omega)
  refine Wks.of ?_
  by_cases e : q < s' + td.length
  · have : appR (s' + td.length) F g q = F q := by unfold appR; rw [show Nat.blt q (s' + td.length) = true from by rw [Nat.blt_eq]; exact e]; rfl
    rw [this, hF]
    congr 2
    rw [← List.append_assoc, ← hd]
    rw [List.getD_eq_getElem?_getD, List.getD_eq_getElem?_getD]
    have h3 : q < ((p ++ td).drop (p.length - s')).length := by rw [hd, List.length_append, hl]; exact e
    rw [List.getElem?_append_left h3, List.getElem?_drop]
  · have e2 : q = s' + td.length := by omega
    subst e2
    have : appR (s' + td.length) F g (s' + td.length) = g 0 := by unfold appR; rw [show Nat.blt (s' + td.length) (s' + td.length) = false from by rw [Bool.eq_false_iff]; intro h; rw [Nat.blt_eq] at h; omega, Nat.sub_self]; rfl
    rw [this, hg, ← List.append_assoc]
    congr 2
    have h2 : (p.drop (p.length - s') ++ td).length = s' + td.length := by rw [List.length_append, hl]
    simp [List.getD_eq_getElem?_getD, ← h2]
theorem len_snoc {l : List Int} {y : Int} : (l ++ [y]).length = l.length + 1 := by simp
theorem drop_len {p : List Int} {s' : Nat} (hs : s' = 0 ∨ s' = p.length) : (p.drop (p.length - s')).length = s' := by rw [List.length_drop]; omega
theorem insCalls_le (l : List Ins) (j : Nat) : (Zaz (l.take j)).length ≤ (Zaz l).length := by
  conv => rhs; rw [← List.take_append_drop j l]
  unfold Zaz; rw [List.filter_append, List.map_append, List.length_append]; omega
theorem funCalls_le {l : List Zbd} {k : Nat} (h : k < l.length) : (Zal (l.take k)).length + (Zcj (l.getD k default)).length ≤ (Zal l).length := by
  have h1 := funCalls_succ h
  have h2 : Zal l = Zal (l.take (k + 1)) ++ Zal (l.drop (k + 1)) := by
    conv => lhs; rw [← List.take_append_drop (k + 1) l]
    unfold Zal; rw [List.flatMap_append]
  rw [h2, h1, List.length_append, List.length_append]; omega
theorem get_mid {p td : List Int} {x : Int} : (p ++ x :: td).getD p.length 0 = x := by simp [List.getD_eq_getElem?_getD]
set_option maxHeartbeats 4000000 in
theorem c_used (l : List Func) (h0 : 0 < l.length) (hok : ∀ n, n < l.length → ∀ y ∈ Zal (l.getD n default).blocks, 0 ≤ y ∧ y < l.length) (hw : wt l (List.replicate l.length false) + 1 ≤ 4294967296) :
    FO Try.prog 93 [.agg (Zba ⟨l⟩)] 1 l.length (fun x => [.bool ((usedL l).getD x false)]) := by
  refine Zdo tok Try.func93 rfl (by decide +kernel) (Nat.le_of_ble_eq_true rfl) ?_
  refine Zau 0 (fun hl => ?_)
  have hmx : maxL = 4294967296 := rfl
  have hl0 : l.length ≤ maxL := hl.1.1
  have hl1 : ∀ i, i < l.length → (l.getD i default).blocks.length ≤ maxL := fun i hi => (hl.1.2 i hi).2.2.1.1
  have hl2 : ∀ i, i < l.length → ∀ q, q < (l.getD i default).blocks.length → ((l.getD i default).blocks.getD q default).ins.length ≤ maxL := fun i hi q hq => ((hl.1.2 i hi).2.2.1.2 q hq).2.2.2.2.2.1.1
  clear hl
  ((repeat' first | refine Zad ?_ | (refine Zac tok (by rfl) ?_; conv => whnf) | refine Zaf ?_ | (refine @And.intro (Zaa _ _ _ _) _ ?_ ?_; rotate_left; (conv => whnf); rotate_right)); all_goals (try ((guard_target = Zaa _ _ _ _); refine Zae ?_; (all_goals (try simp only [Zaa, kzz, kz11, kz12, maxL, Zab] at *)); all_goals omega)))
  refine Zas (fun s : List Bool × List Int × List Int => mkS [(1, .bp (1, 0, 0) 0), (3, .rs (40, 0, 0) 1 0 l.length), (4, .rs (41, 0, 0) 1 (s.2.1).length (s.2.2).length)] [((1, 0, 0), Zaw (Zba ⟨l⟩)), ((40, 0, 0), .row true 1 l.length (fun q => [.bool ((s.1).getD q false)])), ((41, 0, 0), .row true 1 (s.2.1 ++ s.2.2).length (fun q => [iv ((s.2.1 ++ s.2.2).getD q 0)]))]) (fun s => UI l s.1 s.2.2) (fun s => wt l s.1 + s.2.2.length) (List.replicate l.length false, [], [0]) (UI.init h0) ?_ ?_
  · refine Weak.list [((1, 0, 0), .old (1, 0, 0), Zaw (Zba ⟨l⟩)), ((40, 0, 0), .old (13, 0, 0), .row true 1 l.length (fun q => [.bool (((List.replicate l.length false)).getD q false)])), ((41, 0, 0), .old (14, 0, 0), .row true 1 (([] : List Int) ++ ([0] : List Int)).length (fun q => [iv ((([] : List Int) ++ ([0] : List Int)).getD q 0)]))] rfl (by rfl) ?_ (.old rfl (BLe.refl _) (.old rfl (BLe.rowW (Nat.le_refl _) (fun z hz => Wks.of ?_)) (.old rfl (BLe.rowW (Nat.le_refl _) (fun z hz => Wks.of ?_)) .nil)))
    · ((repeat' first | exact TLes.nil | refine TLes.cons (TLe.eq rfl) ?_); skip)
    · show [AV.bool false] = _
      rw [List.getD_eq_getElem?_getD, List.getElem?_replicate, if_pos hz]; rfl
    · have : z = 0 := by simpa using hz
      subst this; rfl
  rintro ⟨out, p, td⟩ hI
  replace hI : UI l out td := hI
  have hol := hI.len
  have hbd := hI.bnd
  show AWp _ _ _ _ _ (mkS [(1, .bp (1, 0, 0) 0), (3, .rs (40, 0, 0) 1 0 l.length), (4, .rs (41, 0, 0) 1 (p).length (td).length)] [((1, 0, 0), Zaw (Zba ⟨l⟩)), ((40, 0, 0), .row true 1 l.length (fun q => [.bool ((out).getD q false)])), ((41, 0, 0), .row true 1 (p ++ td).length (fun q => [iv ((p ++ td).getD q 0)]))])
  (repeat' ((fail_if_success (show AWp _ _ _ (Code.region 4 _ _) _ _)); (fail_if_success (show AWp _ _ _ (Code.region 20 _ _) _ _)); first | refine Zad ?_ | (refine Zac tok (by rfl) ?_; conv => whnf) | refine Zaf ?_ | (refine Zai ?_; conv => whnf) | (refine Zar ?_; conv => whnf) | refine Zah rfl (fun hb => ?_) (fun hb => ?_)))
  · cases td with
    | nil => simp at hb
    | cons x td =>
    clear hb
    have hlc : (x :: td).length = td.length + 1 := rfl
    have hla : (p ++ [x]).length = p.length + 1 := by simp
    have hlb : (p ++ [x] ++ td).length = p.length + (td.length + 1) := by simp
    have hlp : (p ++ x :: td).length = p.length + (td.length + 1) := List.length_append
    have hr := hI.rng x (by simp)
    obtain ⟨hx0, hx1, -⟩ := hr
    have hgm := get_mid (p := p) (td := td) (x := x)
    ((repeat' ((fail_if_success (show AWp _ _ _ (Code.region 6 _ _) _ _)); first | refine Zad ?_ | (refine Zac tok (by rfl) ?_; conv => whnf) | (refine @And.intro (Zaa _ _ _ _) _ ?_ ?_; rotate_left; (conv => whnf); rotate_right))); all_goals (try ((guard_target = Zaa _ _ _ _); refine Zae ?_; (all_goals (try simp only [Zaa, kzz, kz11, kz12, maxL, Zab] at *)); all_goals omega)))
    refine Za6 (Weak.list (tl := [(1, .bp (1, 0, 0) 0), (3, .rs (40, 0, 0) 1 0 l.length), (4, .rs (41, 0, 0) 1 ((p ++ [x])).length (td).length), (5, iv x)]) [((1, 0, 0), .old (1, 0, 0), Zaw (Zba ⟨l⟩)), ((40, 0, 0), .old (40, 0, 0), .row true 1 l.length (fun q => [.bool ((out).getD q false)])), ((41, 0, 0), .old (41, 0, 0), .row true 1 ((p ++ [x]) ++ td).length (fun q => [iv (((p ++ [x]) ++ td).getD q 0)]))] rfl (by rfl) ?_ (.old rfl (BLe.refl _) (.old rfl (BLe.refl _) (.old rfl (BLe.rowW ?_ (fun z hz => Wks.of ?_)) .nil)))) ?_
    · refine .cons (.eq rfl) (.cons (.eq rfl) (.cons (.eq ?_) (.cons (.int ?_) .nil)))
      · show AV.rs (41, 0, 0) 1 (p.length + 1) (((x :: td).length : Int).toNat - 1) = AV.rs (41, 0, 0) 1 (p ++ [x]).length td.length
        rw [hla, Int.toNat_natCast, hlc]; rfl
      · exact hgm
    · rw [hlb, hlp]; exact Nat.le_refl _
    · rw [List.append_assoc]; rfl
    ((repeat' ((fail_if_success (show AWp _ _ _ (Code.region 7 _ _) _ _)); first | refine Zad ?_ | (refine Zac tok (by rfl) ?_; conv => whnf) | (refine Zai ?_; conv => whnf) | (refine Zar ?_; conv => whnf) | refine Zah rfl (fun hb => ?_) (fun hb => ?_) | (refine @And.intro (Zaa _ _ _ _) _ ?_ ?_; rotate_left; (conv => whnf); rotate_right))); all_goals (try ((guard_target = Zaa _ _ _ _); refine Zae ?_; (all_goals (try simp only [Zaa, kzz, kz11, kz12, maxL, Zab] at *)); all_goals omega)))
    · have hxo : out.getD x.toNat false = true := by rw [Nat.zero_add] at hb; exact hb
      clear hb
      refine ⟨(out, p ++ [x], td), hI.skip hxo, ?_, ?_⟩
      · show wt l out + td.length < wt l out + (x :: td).length
        rw [hlc]; omega
      refine Weak.list [((1, 0, 0), .old (1, 0, 0), Zaw (Zba ⟨l⟩)), ((40, 0, 0), .old (40, 0, 0), .row true 1 l.length (fun q => [.bool ((out).getD q false)])), ((41, 0, 0), .old (41, 0, 0), .row true 1 ((p ++ [x]) ++ td).length (fun q => [iv (((p ++ [x]) ++ td).getD q 0)]))] rfl (by rfl) ?_ (.old rfl (BLe.refl _) (.old rfl (BLe.refl _) (.old rfl (BLe.refl _) .nil)))
      ((repeat' first | exact TLes.nil | refine TLes.cons (TLe.eq rfl) ?_); skip)
    · have hxo : out.getD x.toNat false = false := by rw [Nat.zero_add] at hb; exact hb
      clear hb
      have hT := hI.take hxo hok
      have hTb := hT.bnd
      have hxl : x.toNat < l.length := by omega
      have hws := wt_set hxl hol hxo
      have hgen : ∃ o2, out.set x.toNat true = o2 := ⟨_, rfl⟩
      obtain ⟨o2, ho2⟩ := hgen
      have hgt : ∀ q, updR (fun q => [AV.bool (out.getD q false)]) (0 + x.toNat) [.bool true] q = [AV.bool (o2.getD q false)] := fun q => by
        rw [← ho2, Zfi (by omega), Nat.zero_add]
        unfold updR; cases Nat.beq x.toNat q <;> rfl
      rw [ho2] at hT hTb hws
      have hgen : ∃ bs, (l.getD x.toNat default).blocks = bs := ⟨_, rfl⟩
      obtain ⟨bs, hbs⟩ := hgen
      have hb1 := hl1 _ hxl
      have hb2 := hl2 _ hxl
      rw [hbs] at hT hTb hws hb1 hb2
      rw [List.length_append] at hTb
      ((repeat' first | refine Zad ?_ | (refine Zac tok (by rfl) ?_; conv => whnf) | (refine @And.intro (Zaa _ _ _ _) _ ?_ ?_; rotate_left; (conv => whnf); rotate_right)); all_goals (try ((guard_target = Zaa _ _ _ _); refine Zae ?_; (all_goals (try simp only [Zaa, kzz, kz11, kz12, maxL, Zab] at *)); all_goals omega)))
      refine Zaf ?_
      refine Zas (fun s : Nat × List Int => mkS [(1, .bp (1, 0, 0) 0), (3, .rs (40, 0, 0) 1 0 l.length), (4, .rs (41, 0, 0) 1 (s.2).length ((td ++ Zal (bs.take s.1))).length), (35, Zbk bs), (36, iv bs.length), (37, iv s.1)] [((1, 0, 0), Zaw (Zba ⟨l⟩)), ((40, 0, 0), .row true 1 l.length (fun q => [.bool ((o2).getD q false)])), ((41, 0, 0), .row true 1 (s.2 ++ (td ++ Zal (bs.take s.1))).length (fun q => [iv ((s.2 ++ (td ++ Zal (bs.take s.1))).getD q 0)]))]) (fun s => s.1 ≤ bs.length) (fun s => bs.length - s.1) (0, p ++ [x]) (Nat.zero_le _) ?_ ?_
      · refine Weak.list [((1, 0, 0), .old (1, 0, 0), Zaw (Zba ⟨l⟩)), ((40, 0, 0), .old (40, 0, 0), .row true 1 l.length (fun q => [.bool ((o2).getD q false)])), ((41, 0, 0), .old (41, 0, 0), .row true 1 ((p ++ [x]) ++ (td ++ Zal (bs.take 0))).length (fun q => [iv (((p ++ [x]) ++ (td ++ Zal (bs.take 0))).getD q 0)]))] rfl (by rfl) ?_ (.old rfl (BLe.refl _) (.old rfl (BLe.rowW (Nat.le_refl _) (fun z hz => Wks.of ?_)) (.old rfl (BLe.rowW ?_ (fun z hz => Wks.of ?_)) .nil)))
        · refine .cons (.eq rfl) (.cons (.eq rfl) (.cons (.eq ?_) (.cons (.eq ?_) (.cons (.int ?_) (.cons (.eq rfl) .nil)))))
          · show AV.rs (41, 0, 0) 1 (p ++ [x]).length td.length = _
            rw [List.take_zero]; show _ = AV.rs (41, 0, 0) 1 (p ++ [x]).length (td ++ []).length; rw [List.append_nil]
          · show Zbk (l.getD x.toNat default).blocks = _
            rw [hbs]
          · show ((l.getD x.toNat default).blocks.length : Int) = _
            rw [hbs]
        · exact hgt z
        · rw [List.take_zero]; show (p ++ [x] ++ (td ++ [])).length ≤ _; rw [List.append_nil]; exact Nat.le_refl _
        · rw [List.take_zero]; show _ = [iv ((p ++ [x] ++ (td ++ [])).getD z 0)]; rw [List.append_nil]; rfl
      rintro ⟨k, p⟩ hk
      replace hk : k ≤ bs.length := hk
      show AWp _ _ _ _ _ (mkS [(1, .bp (1, 0, 0) 0), (3, .rs (40, 0, 0) 1 0 l.length), (4, .rs (41, 0, 0) 1 (p).length ((td ++ Zal (bs.take k))).length), (35, Zbk bs), (36, iv bs.length), (37, iv k)] [((1, 0, 0), Zaw (Zba ⟨l⟩)), ((40, 0, 0), .row true 1 l.length (fun q => [.bool ((o2).getD q false)])), ((41, 0, 0), .row true 1 (p ++ (td ++ Zal (bs.take k))).length (fun q => [iv ((p ++ (td ++ Zal (bs.take k))).getD q 0)]))])
      (repeat' ((fail_if_success (show AWp _ _ _ (Code.region 10 _ _) _ _)); first | refine Zad ?_ | (refine Zac tok (by rfl) ?_; conv => whnf) | refine Zaf ?_ | (refine Zai ?_; conv => whnf) | (refine Zar ?_; conv => whnf) | refine Zah rfl (fun hb => ?_) (fun hb => ?_)))
      · have hkl : k < bs.length := by simp only [decide_eq_true_eq] at hb; omega
        clear hb
        have hgen : ∃ b, bs.getD k default = b := ⟨_, rfl⟩
        obtain ⟨b, hbk⟩ := hgen
        have hfl := funCalls_le hkl
        have hfs := funCalls_succ hkl
        have hb3 := hb2 k hkl
        rw [hbk] at hfl hfs hb3
        have hbl : (Zcj b).length = (Zaz b.ins).length + (if b.fin.kind = 4 then [b.fin.f] else []).length := List.length_append
        ((repeat' ((fail_if_success (show AWp _ _ _ (Code.region 11 _ _) _ _)); first | refine Zad ?_ | (refine Zac tok (by rfl) ?_; conv => whnf) | (refine @And.intro (Zaa _ _ _ _) _ ?_ ?_; rotate_left; (conv => whnf); rotate_right))); all_goals (try ((guard_target = Zaa _ _ _ _); refine Zae ?_; (all_goals (try simp only [Zaa, kzz, kz11, kz12, maxL, Zab] at *)); all_goals omega)))
        refine Za6 (Weak.list (tl := [(1, .bp (1, 0, 0) 0), (3, .rs (40, 0, 0) 1 0 l.length), (4, .rs (41, 0, 0) 1 (p).length ((td ++ Zal (bs.take k))).length), (7, .bp (7, 0, 0) 0), (35, Zbk bs), (36, iv bs.length), (37, iv k)]) [((1, 0, 0), .old (1, 0, 0), Zaw (Zba ⟨l⟩)), ((40, 0, 0), .old (40, 0, 0), .row true 1 l.length (fun q => [.bool ((o2).getD q false)])), ((41, 0, 0), .old (41, 0, 0), .row true 1 (p ++ (td ++ Zal (bs.take k))).length (fun q => [iv ((p ++ (td ++ Zal (bs.take k))).getD q 0)])), ((7, 0, 0), .old (7, 0, 0), .row true 14 1 (fun _ => Za3 b))] rfl (by rfl) ?_ (.old rfl (BLe.refl _) (.old rfl (BLe.refl _) (.old rfl (BLe.refl _) (.old rfl (BLe.rowW (Nat.le_refl _) (ltS (Wks.of (by rw [← hbk, Int.toNat_natCast]; rfl)) lt0)) .nil))))) ?_
        · ((repeat' first | exact TLes.nil | refine TLes.cons (TLe.eq rfl) ?_); skip)
        (repeat' (refine Zac tok (by rfl) ?_; conv => whnf))
        refine Zaf ?_
        refine Zas (fun s : Nat × List Int => mkS [(1, .bp (1, 0, 0) 0), (3, .rs (40, 0, 0) 1 0 l.length), (4, .rs (41, 0, 0) 1 (s.2).length ((td ++ Zal (bs.take k) ++ Zaz (b.ins.take s.1))).length), (7, .bp (7, 0, 0) 0), (35, Zbk bs), (36, iv bs.length), (37, iv k), (42, inss b.ins), (43, iv b.ins.length), (44, iv s.1)] [((1, 0, 0), Zaw (Zba ⟨l⟩)), ((40, 0, 0), .row true 1 l.length (fun q => [.bool ((o2).getD q false)])), ((41, 0, 0), .row true 1 (s.2 ++ (td ++ Zal (bs.take k) ++ Zaz (b.ins.take s.1))).length (fun q => [iv ((s.2 ++ (td ++ Zal (bs.take k) ++ Zaz (b.ins.take s.1))).getD q 0)])), ((7, 0, 0), .row true 14 1 (fun _ => Za3 b))]) (fun s => s.1 ≤ b.ins.length) (fun s => b.ins.length - s.1) (0, p) (Nat.zero_le _) ?_ ?_
        · refine Weak.list [((1, 0, 0), .old (1, 0, 0), Zaw (Zba ⟨l⟩)), ((40, 0, 0), .old (40, 0, 0), .row true 1 l.length (fun q => [.bool ((o2).getD q false)])), ((41, 0, 0), .old (41, 0, 0), .row true 1 (p ++ (td ++ Zal (bs.take k) ++ Zaz (b.ins.take 0))).length (fun q => [iv ((p ++ (td ++ Zal (bs.take k) ++ Zaz (b.ins.take 0))).getD q 0)])), ((7, 0, 0), .old (7, 0, 0), .row true 14 1 (fun _ => Za3 b))] rfl (by rfl) ?_ (.old rfl (BLe.refl _) (.old rfl (BLe.refl _) (.old rfl (BLe.rowW ?_ (fun z hz => Wks.of ?_)) (.old rfl (BLe.refl _) .nil))))
          · refine .cons (.eq rfl) (.cons (.eq rfl) (.cons (.eq ?_) (.cons (.eq rfl) (.cons (.eq rfl) (.cons (.eq rfl) (.cons (.eq rfl) (.cons (.eq rfl) (.cons (.eq rfl) (.cons (.eq rfl) .nil)))))))))
            show AV.rs (41, 0, 0) 1 p.length (td ++ Zal (bs.take k)).length = _
            rw [List.take_zero]; show _ = AV.rs (41, 0, 0) 1 p.length (td ++ Zal (bs.take k) ++ []).length; rw [List.append_nil]
          · rw [List.take_zero]; show (p ++ (td ++ Zal (bs.take k) ++ [])).length ≤ _; rw [List.append_nil]; exact Nat.le_refl _
          · rw [List.take_zero]; show _ = [iv ((p ++ (td ++ Zal (bs.take k) ++ [])).getD z 0)]; rw [List.append_nil]; rfl
        rintro ⟨j, p⟩ hj
        replace hj : j ≤ b.ins.length := hj
        show AWp _ _ _ _ _ (mkS [(1, .bp (1, 0, 0) 0), (3, .rs (40, 0, 0) 1 0 l.length), (4, .rs (41, 0, 0) 1 (p).length ((td ++ Zal (bs.take k) ++ Zaz (b.ins.take j))).length), (7, .bp (7, 0, 0) 0), (35, Zbk bs), (36, iv bs.length), (37, iv k), (42, inss b.ins), (43, iv b.ins.length), (44, iv j)] [((1, 0, 0), Zaw (Zba ⟨l⟩)), ((40, 0, 0), .row true 1 l.length (fun q => [.bool ((o2).getD q false)])), ((41, 0, 0), .row true 1 (p ++ (td ++ Zal (bs.take k) ++ Zaz (b.ins.take j))).length (fun q => [iv ((p ++ (td ++ Zal (bs.take k) ++ Zaz (b.ins.take j))).getD q 0)])), ((7, 0, 0), .row true 14 1 (fun _ => Za3 b))])
        have hlE : (td ++ Zal (bs.take k) ++ Zaz (b.ins.take j)).length = td.length + (Zal (bs.take k)).length + (Zaz (b.ins.take j)).length := by rw [List.length_append, List.length_append]
        have hil := insCalls_le b.ins j
        ((repeat' ((fail_if_success (show AWp _ _ _ (Code.region 15 _ _) _ _)); (fail_if_success (show AWp _ _ _ (Code.region 17 _ _) _ _)); first | refine Zad ?_ | (refine Zac tok (by rfl) ?_; conv => whnf) | refine Zaf ?_ | (refine Zai ?_; conv => whnf) | (refine Zar ?_; conv => whnf) | refine Zah rfl (fun hb => ?_) (fun hb => ?_) | (refine @And.intro (Zaa _ _ _ _) _ ?_ ?_; rotate_left; (conv => whnf); rotate_right))); all_goals (try ((guard_target = Zaa _ _ _ _); refine Zae ?_; (all_goals (try simp only [Zaa, kzz, kz11, kz12, maxL, Zab] at *)); all_goals omega)))
        · have hjl : j < b.ins.length := by rename_i hb0; simp only [decide_eq_true_eq] at hb0; omega
          have h11 : (b.ins.getD j default).op = 11 := by simpa using hb
          clear hb
          have hyy := insCalls_yes hjl h11
          have hil2 := insCalls_le b.ins (j + 1)
          rw [hyy, List.length_append] at hil2
          have hyes : td ++ Zal (bs.take k) ++ Zaz (b.ins.take (j + 1)) = td ++ Zal (bs.take k) ++ Zaz (b.ins.take j) ++ [(b.ins.getD j default).f] := by rw [hyy, ← List.append_assoc]
          refine AWp_appSt tok 4 rfl (by rfl) rfl rfl rfl rfl rfl rfl ?_
          conv => whnf
          refine ⟨_, _, _, _, _, rfl, rfl, ⟨?_, ?_, ?_⟩, fun s' hs' => ?_⟩
          · exact Zeh rfl (Nat.le_refl _)
          · exact Nat.le_of_eq (List.length_append).symm
          · show (td ++ Zal (bs.take k) ++ Zaz (b.ins.take j)).length + 1 ≤ _
            omega
          have hdl := drop_len hs'
          refine ⟨rfl, ?_⟩
          conv => whnf
          (repeat' (refine Zac tok (by rfl) ?_; conv => whnf))
          refine ⟨(j + 1, p.drop (p.length - s')), hjl, ?_, ?_⟩
          · show b.ins.length - (j + 1) < b.ins.length - j
            omega
          refine Weak.list [((1, 0, 0), .old (1, 0, 0), Zaw (Zba ⟨l⟩)), ((40, 0, 0), .old (40, 0, 0), .row true 1 l.length (fun q => [.bool ((o2).getD q false)])), ((41, 0, 0), .old (55, 0, 0), .row true 1 ((p.drop (p.length - s')) ++ (td ++ Zal (bs.take k) ++ Zaz (b.ins.take (j + 1)))).length (fun q => [iv (((p.drop (p.length - s')) ++ (td ++ Zal (bs.take k) ++ Zaz (b.ins.take (j + 1)))).getD q 0)])), ((7, 0, 0), .old (7, 0, 0), .row true 14 1 (fun _ => Za3 b))] rfl (by rfl) ?_ (.old rfl (BLe.refl _) (.old rfl (BLe.refl _) (.old rfl (BLe.rowW ?_ (fun z hz => ?_)) (.old rfl (BLe.refl _) .nil))))
          · refine .cons (.eq rfl) (.cons (.eq rfl) (.cons (.eq ?_) (.cons (.eq rfl) (.cons (.eq rfl) (.cons (.eq rfl) (.cons (.eq rfl) (.cons (.eq rfl) (.cons (.eq rfl) (.cons (.int ?_) .nil)))))))))
            · show AV.rs (41, 0, 0) 1 s' ((td ++ Zal (bs.take k) ++ Zaz (b.ins.take j)).length + 1) = _
              rw [hdl, hyes, len_snoc (l := td ++ Zal (bs.take k) ++ Zaz (b.ins.take j))]
            · rw [Zaj (by omega) (by omega)]; rfl
          · show _ ≤ s' + (td ++ Zal (bs.take k) ++ Zaz (b.ins.take j)).length + 1
            rw [hyes, List.length_append, hdl, len_snoc (l := td ++ Zal (bs.take k) ++ Zaz (b.ins.take j)), Nat.add_assoc]; exact Nat.le_refl _
          · rw [hyes] at hz ⊢
            rw [List.length_append, hdl, len_snoc (l := td ++ Zal (bs.take k) ++ Zaz (b.ins.take j)), ← Nat.add_assoc] at hz
            exact st_rowW hs' (fun _ => rfl) rfl hz
        · have hjl : j < b.ins.length := by rename_i hb0; simp only [decide_eq_true_eq] at hb0; omega
          have h11 : ¬ (b.ins.getD j default).op = 11 := by simpa using hb
          clear hb
          have hno := insCalls_no hjl h11
          refine ⟨(j + 1, p), hjl, ?_, ?_⟩
          · show b.ins.length - (j + 1) < b.ins.length - j
            omega
          refine Weak.list [((1, 0, 0), .old (1, 0, 0), Zaw (Zba ⟨l⟩)), ((40, 0, 0), .old (40, 0, 0), .row true 1 l.length (fun q => [.bool ((o2).getD q false)])), ((41, 0, 0), .old (41, 0, 0), .row true 1 (p ++ (td ++ Zal (bs.take k) ++ Zaz (b.ins.take (j + 1)))).length (fun q => [iv ((p ++ (td ++ Zal (bs.take k) ++ Zaz (b.ins.take (j + 1)))).getD q 0)])), ((7, 0, 0), .old (7, 0, 0), .row true 14 1 (fun _ => Za3 b))] rfl (by rfl) ?_ (.old rfl (BLe.refl _) (.old rfl (BLe.refl _) (.old rfl (BLe.rowW ?_ (fun z hz => Wks.of ?_)) (.old rfl (BLe.refl _) .nil))))
          · refine .cons (.eq rfl) (.cons (.eq rfl) (.cons (.eq ?_) (.cons (.eq rfl) (.cons (.eq rfl) (.cons (.eq rfl) (.cons (.eq rfl) (.cons (.eq rfl) (.cons (.eq rfl) (.cons (.int ?_) .nil)))))))))
            · rw [hno]; rfl
            · rw [Zaj (by omega) (by omega)]; rfl
          · rw [hno]; exact Nat.le_refl _
          · rw [hno]; rfl
        · have hjl : j = b.ins.length := by simp only [decide_eq_false_iff_not] at hb; omega
          clear hb
          rw [hjl, List.take_length] at hlE ⊢
          (repeat' ((fail_if_success (show AWp _ _ _ (Code.region 18 _ _) _ _)); first | (refine Zac tok (by rfl) ?_; conv => whnf) | (refine Zai ?_; conv => whnf) | refine Zah rfl (fun hb => ?_) (fun hb => ?_)))
          · have h4 : b.fin.kind = 4 := by simpa using hb
            clear hb
            rw [if_pos h4] at hbl
            have hbl' : (Zcj b).length = (Zaz b.ins).length + 1 := hbl
            have hyes : td ++ Zal (bs.take (k + 1)) = td ++ Zal (bs.take k) ++ Zaz b.ins ++ [b.fin.f] := by
              rw [hfs]; unfold Zcj; rw [if_pos h4, List.append_assoc, List.append_assoc]
            refine AWp_appSt tok 5 rfl (by rfl) rfl rfl rfl rfl rfl rfl ?_
            conv => whnf
            refine ⟨_, _, _, _, _, rfl, rfl, ⟨?_, ?_, ?_⟩, fun s' hs' => ?_⟩
            · exact Zeh rfl (Nat.le_refl _)
            · exact Nat.le_of_eq (List.length_append).symm
            · show (td ++ Zal (bs.take k) ++ Zaz b.ins).length + 1 ≤ _
              omega
            have hdl := drop_len hs'
            refine ⟨rfl, ?_⟩
            conv => whnf
            (repeat' (refine Zac tok (by rfl) ?_; conv => whnf))
            refine ⟨(k + 1, p.drop (p.length - s')), hkl, ?_, ?_⟩
            · show bs.length - (k + 1) < bs.length - k
              omega
            refine Weak.list [((1, 0, 0), .old (1, 0, 0), Zaw (Zba ⟨l⟩)), ((40, 0, 0), .old (40, 0, 0), .row true 1 l.length (fun q => [.bool ((o2).getD q false)])), ((41, 0, 0), .old (66, 0, 0), .row true 1 ((p.drop (p.length - s')) ++ (td ++ Zal (bs.take (k + 1)))).length (fun q => [iv (((p.drop (p.length - s')) ++ (td ++ Zal (bs.take (k + 1)))).getD q 0)]))] rfl (by rfl) ?_ (.old rfl (BLe.refl _) (.old rfl (BLe.refl _) (.old rfl (BLe.rowW ?_ (fun z hz => ?_)) .nil)))
            · refine .cons (.eq rfl) (.cons (.eq rfl) (.cons (.eq ?_) (.cons (.eq rfl) (.cons (.eq rfl) (.cons (.int ?_) .nil)))))
              · show AV.rs (41, 0, 0) 1 s' ((td ++ Zal (bs.take k) ++ Zaz b.ins).length + 1) = _
                rw [hdl, hyes, len_snoc (l := td ++ Zal (bs.take k) ++ Zaz b.ins)]
              · rw [Zaj (by omega) (by omega)]; rfl
            · show _ ≤ s' + (td ++ Zal (bs.take k) ++ Zaz b.ins).length + 1
              rw [hyes, List.length_append, hdl, len_snoc (l := td ++ Zal (bs.take k) ++ Zaz b.ins), Nat.add_assoc]; exact Nat.le_refl _
            · rw [hyes] at hz ⊢
              rw [List.length_append, hdl, len_snoc (l := td ++ Zal (bs.take k) ++ Zaz b.ins), ← Nat.add_assoc] at hz
              exact st_rowW hs' (fun _ => rfl) rfl hz
          · have h4 : ¬ b.fin.kind = 4 := by simpa using hb
            clear hb
            have hno : td ++ Zal (bs.take (k + 1)) = td ++ Zal (bs.take k) ++ Zaz b.ins := by
              rw [hfs]; unfold Zcj; rw [if_neg h4, List.append_nil, List.append_assoc]
            refine ⟨(k + 1, p), hkl, ?_, ?_⟩
            · show bs.length - (k + 1) < bs.length - k
              omega
            refine Weak.list [((1, 0, 0), .old (1, 0, 0), Zaw (Zba ⟨l⟩)), ((40, 0, 0), .old (40, 0, 0), .row true 1 l.length (fun q => [.bool ((o2).getD q false)])), ((41, 0, 0), .old (41, 0, 0), .row true 1 (p ++ (td ++ Zal (bs.take (k + 1)))).length (fun q => [iv ((p ++ (td ++ Zal (bs.take (k + 1)))).getD q 0)]))] rfl (by rfl) ?_ (.old rfl (BLe.refl _) (.old rfl (BLe.refl _) (.old rfl (BLe.rowW ?_ (fun z hz => Wks.of ?_)) .nil)))
            · refine .cons (.eq rfl) (.cons (.eq rfl) (.cons (.eq ?_) (.cons (.eq rfl) (.cons (.eq rfl) (.cons (.int ?_) .nil)))))
              · rw [hno]; rfl
              · rw [Zaj (by omega) (by omega)]; rfl
            · rw [hno]; exact Nat.le_refl _
            · rw [hno]; rfl
      · have hkl : k = bs.length := by simp only [decide_eq_false_iff_not] at hb; omega
        clear hb
        have htk : bs.take k = bs := by rw [hkl, List.take_length]
        rw [htk]
        refine ⟨(o2, p, td ++ Zal bs), hT, ?_, ?_⟩
        · show wt l o2 + (td ++ Zal bs).length < wt l out + (x :: td).length
          rw [List.length_append, hlc]; omega
        refine Weak.list [((1, 0, 0), .old (1, 0, 0), Zaw (Zba ⟨l⟩)), ((40, 0, 0), .old (40, 0, 0), .row true 1 l.length (fun q => [.bool ((o2).getD q false)])), ((41, 0, 0), .old (41, 0, 0), .row true 1 (p ++ (td ++ Zal bs)).length (fun q => [iv ((p ++ (td ++ Zal bs)).getD q 0)]))] rfl (by rfl) ?_ (.old rfl (BLe.refl _) (.old rfl (BLe.refl _) (.old rfl (BLe.refl _) .nil)))
        ((repeat' first | exact TLes.nil | refine TLes.cons (TLe.eq rfl) ?_); skip)
  · have : td = [] := by
      cases td with
      | nil => rfl
      | cons x td => simp at hb
    subst this
    clear hb
    have hu := hI.done
    (repeat' first | (refine Zac tok (by rfl) ?_; conv => whnf) | (refine Zak ?_; conv => whnf))
    exact ⟨_, rfl, RelO.rs rfl (Nat.le_refl _) rfl (fun i hi => by rw [hu])⟩
end Go.Proofs.Ytmanpbgaihdalaa
