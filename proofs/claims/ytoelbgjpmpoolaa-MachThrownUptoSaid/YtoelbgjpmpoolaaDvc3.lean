/- Theory: functions of the program walked on abstract states. It says nothing of a program. -/
import Derived.Test.YtoelbgjpmpoolaaDvc2
import Derived.Maps.Range
import Derived.RangeFuncSeq
set_option linter.unusedVariables false
set_option linter.unusedSimpArgs false
set_option linter.unnecessarySimpa false
namespace Dv
open Go Go.MapKept
section
variable {P : Program} {T : Zba} {n : Nat} {L : List Id} {X : Nat → Prop} {all : List Oper}
theorem FPre_sound (hT : TOk P T) (hr : RegOk n all) (hg : Zaq all = []) {K : ASt → Prop} {Q : Exit → Act → World → Prop} {rest : List Nat} {ι0 : Zah} {w0 : World}
    (hQ : ∀ τ ι' a' w', K τ → St n X τ ι' a' w' → Zbo L X ι0 ι' w0 w' → wpOps P all.toArray Q rest a' w') : ∀ (pre : List Oper) (k : Nat) (σ : ASt) (ι : Zah) (a : Act) (w : World), (∀ j, j < pre.length → pre[j]? = all[k + j]?) →
    FOps P T all (Zaq all) k pre σ.tm σ.h K → StG all.toArray n X σ ι a w → Zbo L X ι0 ι w0 w → wpOps P all.toArray Q (List.range' k pre.length ++ rest) a w
  | [], k, σ, ι, a, w, _, h, s, hgo => by
      simp only [List.length_nil, List.range'_zero, List.nil_append]
      obtain ⟨τ, h1, h2⟩ := FOps_end s rfl h
      exact hQ _ ι a w h1 h2 hgo
  | o :: r, k, σ, ι, a, w, hrest, h, s, hgo => by
      have ho : all[k]? = some o := by have := hrest 0 (by simp); simpa using this.symm
      simp only [List.length_cons, List.range'_succ, List.cons_append]
      rw [wpOps_cons]
      have hrest' : ∀ j, j < r.length → r[j]? = all[k + 1 + j]? := fun j hj => by
        have := hrest (j + 1) (by simpa using hj); simpa [Nat.add_assoc, Nat.add_comm 1 j] using this
      cases hnt : nilTest T σ.tm σ.h o.guard o.op with
      | none =>
        exact Zdq hT hr s ho (FOps_cons hnt h) (fun τ ι' a' w' hτ hs hg' => FPre_sound hT hr hg hQ r (k + 1) τ ι' a' w' hrest' hτ hs (hgo.trans hg'))
      | some mn =>
        obtain ⟨m, neg⟩ := mn
        refine nextD_sound hT hr s ho hnt (K := fun τ => FOps P T all (Zaq all) (k + 1) r τ.tm τ.h K) (fun b hb => ?_) (fun τ ι' a' w' hτ hs hg' => FPre_sound hT hr hg hQ r (k + 1) τ ι' a' w' hrest' hτ hs (hgo.trans hg'))
        obtain ⟨d, op, ty, pos, after, g⟩ := o
        simp only [FOps] at h
        simp only at hnt
        rw [hnt] at h
        have h1 := h b hb
        have e2 : ∀ (k' : (Nat → AV) → Prop), fClear (Zaq all) k σ.tm k' = k' (bif memN (Zaq all) k then clearG k σ else σ).tm := by
          intro k'; unfold fClear; cases memN (Zaq all) k <;> rfl
        rw [e2] at h1
        have e3 : ∀ (τ : ASt) (k' : (Nat → AV) → Prop), fPut d g (.bool b) τ.tm k' = k' (τ.put d (gval g (.bool b))).tm := by
          intro τ k'; unfold fPut; cases d with
          | none => rfl
          | some d => simp only [Zb3]; rfl
        rw [e3] at h1
        have e4 : (appS all k ⟨d, op, ty, pos, after, g⟩ (.bool b) .none σ).h = σ.h := app_h
        rw [e4]
        exact h1
abbrev Hand (P : Program) (T : Zba) (all : List Oper) (j : Nat) (o : Oper) (r : List Oper) (τ : ASt) (Q : ASt → Prop) (e : Eff) : Prop :=
  upOk all τ o e.up = true ∧ FOps P T all (Zaq all) (j + 1) r (appS all j o e.val e.up τ).tm (appS all j o e.val e.up τ).h Q
theorem AWp_hand (hT : TOk P T) {id : Nat} {ops : Array Oper} {Q : Exit → ASt → Prop} {σ : ASt} (pre : List Oper) (o : Oper) (r : List Oper) (e : ops.toList = pre ++ o :: r) (hr : regOk n ops.toList = true) (hg : Zaq ops.toList = []) (hog : o.guard = none)
    (h : FOps P T ops.toList (Zaq ops.toList) 0 pre σ.tm σ.h fun τ => ∀ (X : Nat → Prop) ι a w, St n X τ ι a w → ∃ e : Eff, OpOk P n X τ ι a w o (Zat o) e.up e.val ∧ Hand P T ops.toList pre.length o r τ (Q .normal) e) : AWp P n L (.region id ops false) Q σ := by
  refine AWp.region hr (fun X ι a w s => ?_)
  have hR := Ze3 hr
  have hlen : ops.size = pre.length + (1 + r.length) := by
    have := congrArg List.length e; simp at this; omega
  have hrange : List.range ops.size = List.range' 0 pre.length ++ (pre.length :: List.range' (pre.length + 1) r.length) := by
    rw [List.range_eq_range', hlen, ← List.range'_append (s := 0) (m := pre.length) (n := 1 + r.length) (step := 1), Nat.add_comm 1 r.length, List.range'_succ]
    simp
  rw [hrange]
  have key := FPre_sound (L := L) (all := ops.toList) (Q := fun e a' w' => e = .normal ∧ ∃ τ ι', Q .normal τ ∧ St n X τ ι' a' w' ∧ Zbo L X ι ι' w w') (rest := pre.length :: List.range' (pre.length + 1) r.length) (ι0 := ι) (w0 := w) hT hR hg ?_ pre 0 σ ι a w
    (fun j hj => by rw [e, Nat.zero_add, List.getElem?_append_left hj]) h (by simpa using StG.of_St (ops := ops) s) (Zbo.refl L X ι w)
  · simpa using key
  intro τ ι' a' w' hK hs hgo
  rw [wpOps_cons]
  have ho : ops.toList[pre.length]? = some o := by rw [e]; simp
  have ho' : ops.toList.toArray[pre.length]? = some o := by simpa using ho
  obtain ⟨ef, ⟨rr, v, w1, ι1, h1, h2, h3, h4, h5, h6⟩, hu, hK'⟩ := hK X ι' a' w' hs
  have hw : Region.wanted o (yielded ops.toList.toArray a'.tmps) = true := by simp [Region.wanted, hog]
  unfold wpOp
  rw [ho']
  simp only [hw, if_true]
  left
  have hS := StG.of_St (ops := ops.toList.toArray) hs
  have go : ∀ val, V w1 (Own X ι1) ef.val ι1 val → wpOps P ops.toList.toArray (fun e a' w' => e = .normal ∧ ∃ τ ι', Q .normal τ ∧ St n X τ ι' a' w' ∧ Zbo L X ι ι' w w') (List.range' (pre.length + 1) r.length) (a'.put o.dst val) w1 := by
    intro val hv
    have hh : Sim X (upS (Zat o) ef.up τ).h ι1 w1 := h3
    refine Zfi (L := L) (K := Q .normal) (Q := fun e a' w' => e = .normal ∧ ∃ τ ι', Q .normal τ ∧ St n X τ ι' a' w' ∧ Zbo L X ι ι' w w') (ι0 := ι) (w0 := w) hT hR (fun τ ι' a' w' h1 h2 h3 => ⟨rfl, τ, ι', h1, h2, h3⟩) r (pre.length + 1) _ ι1 _ w1 (fun j => ?_) hK'
      (app_StG hR hS ho hu hh h4 (.inl ⟨hw, hv⟩)) (hgo.trans ⟨h6, pin_of hu h4⟩)
    rw [e, List.getElem?_append_right (by omega)]
    rw [show pre.length + 1 + j - pre.length = j + 1 by omega, List.getElem?_cons_succ]
  unfold Oper.wp
  rw [h1]
  rcases h2 with h2 | ⟨h2, h2'⟩
  · subst h2; exact go v h5
  · subst h2; subst h2'; exact go undef h5
theorem New.iter (w : World) (m : Option Nat) (s : Nat) (seen : Array Nat) (c : Nat) : New w (w.alloc (.mapIter m s seen c)) :=
  ⟨rfl, rfl, rfl, by simp, fun k hk => Go.RowKit.Below.heap_alloc w _ k hk, fun b => by
    simp only [World.frozen?]
    rcases Nat.lt_trichotomy b.block w.heap.size with h | h | h
    · rw [Go.RowKit.Below.heap_alloc w _ _ h]
    · rw [h, heap_alloc_new, Array.getElem?_eq_none (Nat.le_refl _)]
    · rw [Array.getElem?_eq_none (by omega : w.heap.size ≤ b.block), Array.getElem?_eq_none (by simp; omega)]⟩
variable {σ : ASt} {ι : Zah} {a : Act} {w : World}
theorem MOk.entry {κ : MK} {m : List (List Int × Int)} {es : Array MapEntry} {clock : Nat} (h : MOk κ m es clock) {e : MapEntry} (he : e ∈ es.toList) : ∃ k v, (k, v) ∈ m ∧ e.key = keyV κ k ∧ e.val = .int κ.vk v := by
  have : (e.key, e.val) ∈ es.toList.map (fun e => (e.key, e.val)) := List.mem_map.2 ⟨e, he, rfl⟩
  rw [h.kv] at this
  obtain ⟨⟨k, v⟩, h1, h2⟩ := List.mem_map.1 this
  have h3 := Prod.mk.inj h2
  exact ⟨k, v, h1, h3.1.symm, h3.2.symm⟩
end
end Dv
namespace Dv
open Go
mutual
theorem immD_map (ρ : Id → Option Id) : ∀ (x : AV), immD x = true → Zbh ρ x = x
  | .agg cs, h => by simp only [immD] at h; simp only [Zbh]; rw [immD_maps ρ cs h]
  | .tup cs, h => by simp only [immD] at h; simp only [Zbh]; rw [immD_maps ρ cs h]
  | .fn f cs, h => by simp only [immD] at h; simp only [Zbh]; rw [immD_maps ρ cs h]
  | .ifc t x, h => by simp only [immD] at h; simp only [Zbh]; rw [immD_map ρ x h]
  | .rs _ _ _ _, h => by simp only [immD] at h; cases h
  | .rp _ _ _ _, h => by simp only [immD] at h; cases h
  | .bp _ _, h => by simp only [immD] at h; cases h
  | .mp _, h => by simp only [immD] at h; cases h
  | .guard _ _ _, h => by simp only [immD] at h; cases h
  | .any, _ => rfl
  | .int _ _, _ => rfl
  | .bool _, _ => rfl
  | .str _, _ => rfl
  | .sl _ _ _, _ => rfl
  | .nsl, _ => rfl
  | .ip _, _ => rfl
  | .np, _ => rfl
  | .nif, _ => rfl
  | .nfn, _ => rfl
  | .is _, _ => rfl
theorem immD_maps (ρ : Id → Option Id) : ∀ (xs : List AV), Zb6 xs = true → Zbk ρ xs = xs
  | [], _ => rfl
  | c :: cs, h => by
      simp only [Zb6, Bool.and_eq_true] at h
      simp only [Zbk]
      rw [immD_map ρ c h.1, immD_maps ρ cs h.2]
end
theorem TLe.fn {R : Rows} {g : FuncId} {cap : List AV} (h : Zb6 cap = true) : TLe R (.fn g cap) (.fn g cap) := .eq (by simp only [Zbh]; rw [immD_maps _ _ h])
theorem immDs_app : ∀ {xs ys : List AV}, Zb6 xs = true → Zb6 ys = true → Zb6 (xs ++ ys) = true
  | [], _, _, h => h
  | c :: cs, ys, h, h2 => by
      simp only [Zb6, Bool.and_eq_true] at h
      simp only [List.cons_append, Zb6, Bool.and_eq_true]
      exact ⟨h.1, immDs_app h.2 h2⟩
theorem Ress.imms : ∀ {h : Zao} {rd : List Id} {xs : List AV}, Zb6 xs = true → Ress h rd xs xs
  | _, _, [], _ => .nil
  | _, _, c :: cs, hi => by
      simp only [Zb6, Bool.and_eq_true] at hi
      exact .cons (.imm hi.1) (Ress.imms hi.2)
end Dv
namespace Dv
open Go
theorem kz1 (p : Prop) : (True ∧ p) = p := true_and p
theorem kz2 (p : Prop) : (p ∧ True) = p := and_true p
theorem kz3 (c f : Bool) : (bif c then true else f) = (c || f) := Bool.cond_true_left c f
theorem kz4 (c f : Bool) : (bif c then false else f) = (!c && f) := Bool.cond_false_left c f
theorem kz5 (c t : Bool) : (bif c then t else true) = (!c || t) := Bool.cond_true_right c t
theorem kz6 (c t : Bool) : (bif c then t else false) = (c && t) := Bool.cond_false_right c t
theorem kz7 (a b : Bool) : ((a || b) = true) = (a = true ∨ b = true) := Bool.or_eq_true a b
theorem kz8 (a b : Bool) : ((a && b) = true) = (a = true ∧ b = true) := Bool.and_eq_true a b
theorem kz9 {a b : Bool} : (a || b) = false ↔ a = false ∧ b = false := Bool.or_eq_false_iff
theorem kz10 {a b : Bool} : (a && b) = false ↔ a = false ∨ b = false := Bool.and_eq_false_iff
theorem kz11 {α : Sort _} {a b : α} : (bif true then a else b) = a := cond_true a b
theorem kz12 {α : Sort _} {a b : α} : (bif false then a else b) = b := cond_false a b
theorem kz13 {a b : Bool} : ((!a) = b) ↔ (a = !b) := Bool.not_eq_eq_eq_not
theorem kz14 : (!true) = false := rfl
theorem kz15 : (!false) = true := rfl
theorem kz16 {p : Prop} [Decidable p] : (decide p = true) = p := decide_eq_true_eq
theorem kz17 {p : Prop} [Decidable p] : decide p = false ↔ ¬p := decide_eq_false_iff_not
theorem kz18 (n : Nat) : (n : Int).toNat = n := Int.toNat_natCast n
theorem kz19 (n : Nat) : 0 + n = n := Nat.zero_add n
theorem kz20 {p : Prop} [Decidable p] : ¬¬p ↔ p := Decidable.not_not
theorem kzz : (∀ p : Prop, (True ∧ p) = p) ∧ (∀ p : Prop, (p ∧ True) = p) ∧ (∀ c f : Bool, (bif c then true else f) = (c || f)) ∧ (∀ c f : Bool, (bif c then false else f) = (!c && f)) ∧ (∀ c t : Bool, (bif c then t else true) = (!c || t)) ∧ (∀ c t : Bool, (bif c then t else false) = (c && t)) ∧
    (∀ a b : Bool, ((a || b) = true) = (a = true ∨ b = true)) ∧ (∀ a b : Bool, ((a && b) = true) = (a = true ∧ b = true)) ∧ (∀ a b : Bool, (a || b) = false ↔ a = false ∧ b = false) ∧ (∀ a b : Bool, (a && b) = false ↔ a = false ∨ b = false) ∧
    (∀ a b : Bool, ((!a) = b) ↔ (a = !b)) ∧ ((!true) = false) ∧ ((!false) = true) ∧ (∀ (p : Prop) [Decidable p], (decide p = true) = p) ∧ (∀ (p : Prop) [Decidable p], decide p = false ↔ ¬p) ∧ (∀ n : Nat, (n : Int).toNat = n) ∧ (∀ n : Nat, 0 + n = n) ∧ (∀ (p : Prop) [Decidable p], ¬¬p ↔ p) :=
  ⟨kz1, kz2, kz3, kz4, kz5, kz6, kz7, kz8, fun _ _ => kz9, fun _ _ => kz10, fun _ _ => kz13, kz14, kz15, fun _ _ => kz16, fun _ _ => kz17, kz18, kz19, fun _ _ => kz20⟩
end Dv
namespace Dv
open Go
theorem bigH_one (i : Id) (b : Zam) (h : Zao) : bigH [] (Zay [(i, b)]) h = updH h i (some b) := by
  funext j
  simp only [bigH, Zay, updH]
  cases e : idEq i j with
  | true => have := Zav.1 e; subst this; simp [Zav.2 rfl]
  | false =>
    have : idEq j i = false := Zbr.2 (fun e' => by subst e'; rw [Zav.2 rfl] at e; cases e)
    simp only [this, cond_false, memI]
    cases h j <;> rfl
theorem QC.turn {P : Program} {h : Zao} {f : FuncId} {args : List AV} {fresh i : Id} {rd : List Id} {b : Zam} {r : AV} (_ : i ∈ rd) (H : ∀ h' : Zao, (∀ j ∈ rd, h' j = h j) → QH P h' f args [] (Zay [(i, b)]) r) :
    QC P h f args rd fresh (.put i b) r := by
  refine ⟨(H h (fun _ _ => rfl)).1, (fun e => by cases e), fun h' hh _ X ι w vals hs hv => ?_⟩
  refine ((H h' hh).2 X ι w vals hs hv).mono ?_
  rintro e w' ⟨v, ι', rfl, h1, h2, h3, h4⟩
  refine ⟨v, ι', rfl, ?_, fun y u' hy => ?_, h3, h4⟩
  · rw [bigH_one] at h1; exact h1
  · exact h2 y u' hy
end Dv
namespace Dv
open Go
end Dv
namespace Dv
open Go
def plc (src : Id → Option Id) (h' : Zao) (ι : Zah) : Zah := fun j => match h' j with
  | none => none
  | some _ => match src j with
    | some i => ι i
    | none => some .nil
theorem Zfq {src : Id → Option Id} {h' : Zao} {ι : Zah} {b : Nat} (h : Mine (plc src h' ι) b) : Mine ι b := by
  obtain ⟨j, c, e⟩ := h
  simp only [plc] at e
  split at e
  · cases e
  · split at e
    · exact ⟨_, c, e⟩
    · cases e
theorem plc_keep {src : Id → Option Id} {h' : Zao} {ι : Zah} {X : Nat → Prop} {w : World} : Keep w w (Own X ι) (Own X (plc src h' ι)) :=
  ⟨Nat.le_refl _, fun _ _ _ => rfl, fun _ _ h => h.imp id Zfq⟩
def GV (src : Id → Option Id) (h h' : Zao) (x y : AV) : Prop := ∀ (X : Nat → Prop) (ι : Zah) (w : World) (v : Value), Sim X h ι w → V w (Own X ι) x ι v → V w (Own X (plc src h' ι)) y (plc src h' ι) v
inductive GVs (src : Id → Option Id) (h h' : Zao) : List AV → List AV → Prop where
  | nil : GVs src h h' [] []
  | cons {x y : AV} {xs ys : List AV} (h1 : GV src h h' x y) (hr : GVs src h h' xs ys) : GVs src h h' (x :: xs) (y :: ys)
section
variable {src : Id → Option Id} {h h' : Zao}
theorem GVs.len : ∀ {xs ys : List AV}, GVs src h h' xs ys → xs.length = ys.length
  | _, _, .nil => rfl
  | _, _, .cons _ hr => by simp [hr.len]
theorem GVs.Vs {X : Nat → Prop} {ι : Zah} {w : World} (s : Sim X h ι w) : ∀ {xs ys : List AV} {vs : List Value}, GVs src h h' xs ys → Dv.Vs w (Own X ι) xs ι vs → Dv.Vs w (Own X (plc src h' ι)) ys (plc src h' ι) vs
  | _, _, _, .nil, hv => by simp only [Dv.Vs] at hv ⊢; exact hv
  | _, _, _, .cons h1 hr, hv => by
      simp only [Dv.Vs] at hv ⊢
      obtain ⟨v, r, e, hv1, hv2⟩ := hv
      exact ⟨v, r, e, h1 X ι w v s hv1, hr.Vs s hv2⟩
theorem GVs.Vc {X : Nat → Prop} {ι : Zah} {w : World} (s : Sim X h ι w) {b : Nat} : ∀ {xs ys : List AV} {o : Nat}, GVs src h h' xs ys → Dv.Vc w (Own X ι) xs ι b o → Dv.Vc w (Own X (plc src h' ι)) ys (plc src h' ι) b o
  | _, _, _, .nil, hv => by simp only [Dv.Vc]
  | _, _, _, .cons h1 hr, hv => by
      simp only [Dv.Vc] at hv ⊢
      obtain ⟨⟨v, e, h0, hv1⟩, hv2⟩ := hv
      exact ⟨⟨v, e, h0, h1 X ι w v s hv1⟩, hr.Vc s hv2⟩
theorem GV.wk {x y : AV} (hi : immD x = true) (hw : Wk x y) : GV src h h' x y := fun _ _ _ _ _ hv => hw.V (immD_V _ _ hi (Zbp plc_keep _ _ (Sub.refl _) hv))
theorem GV.imm {x : AV} (hi : immD x = true) : GV src h h' x x := GV.wk hi .refl
theorem GV.any {x : AV} : GV src h h' x .any := fun _ _ _ _ _ _ => by simp only [V]
theorem GV.eq {x y : AV} (e : x = y) (hh : GV src h h' x x) : GV src h h' x y := e ▸ hh
theorem GV.int {k : IntKind} {n m : Int} (e : n = m) : GV src h h' (.int k n) (.int k m) := by subst e; exact GV.imm rfl
theorem GV.bool {n m : Bool} (e : n = m) : GV src h h' (.bool n) (.bool m) := by subst e; exact GV.imm rfl
theorem GVs.imm : ∀ {xs : List AV}, Zb6 xs = true → GVs src h h' xs xs
  | [], _ => .nil
  | _ :: _, hi => by
      simp only [Zb6, Bool.and_eq_true] at hi
      exact .cons (GV.imm hi.1) (GVs.imm hi.2)
theorem GVs.wks : ∀ {xs ys : List AV}, Zb6 xs = true → Wks xs ys → GVs src h h' xs ys
  | _, _, _, .nil => .nil
  | _, _, hi, .cons hw hr => by
      simp only [Zb6, Bool.and_eq_true] at hi
      exact .cons (GV.wk hi.1 hw) (GVs.wks hi.2 hr)
theorem plc_some {i j : Id} {ι : Zah} {b : Zam} (hj : h' j = some b) (hs : src j = some i) : plc src h' ι j = ι i := by simp only [plc, hj, hs]
theorem GV.rs {i j : Id} {b : Zam} {sz st n st' m : Nat} (hj : h' j = some b) (hs : src j = some i) (e1 : st = st') (e2 : n = m) : GV src h h' (.rs i sz st n) (.rs j sz st' m) := by
  subst e1; subst e2
  intro X ι w v s hv
  simp only [V] at hv ⊢
  rw [plc_some hj hs]; exact hv
theorem GV.rp {i j : Id} {b : Zam} {sz st st' k : Nat} (hj : h' j = some b) (hs : src j = some i) (e1 : st = st') : GV src h h' (.rp i sz st k) (.rp j sz st' k) := by
  subst e1
  intro X ι w v s hv
  simp only [V] at hv ⊢
  rw [plc_some hj hs]; exact hv
theorem GV.bp {i j : Id} {b : Zam} {k : Nat} (hj : h' j = some b) (hs : src j = some i) : GV src h h' (.bp i k) (.bp j k) := by
  intro X ι w v s hv
  simp only [V] at hv ⊢
  rw [plc_some hj hs]; exact hv
theorem GV.mp {i j : Id} {b : Zam} (hj : h' j = some b) (hs : src j = some i) : GV src h h' (.mp i) (.mp j) := by
  intro X ι w v s hv
  simp only [V] at hv ⊢
  rw [plc_some hj hs]; exact hv
theorem GV.nil {j : Id} {b : Zam} {sz m : Nat} (hj : h' j = some b) (hs : src j = none) (hm : 0 = m) : GV src h h' .nsl (.rs j sz 0 m) := by
  subst hm
  intro X ι w v s hv
  simp only [V] at hv ⊢
  simp only [plc, hj, hs]
  exact ⟨hv, trivial, trivial⟩
theorem GV.agg {xs ys : List AV} (hs : GVs src h h' xs ys) : GV src h h' (.agg xs) (.agg ys) := fun X ι w v s hv => by
  simp only [V] at hv ⊢
  obtain ⟨a, e, h1⟩ := hv
  exact ⟨a, e, hs.Vs s h1⟩
theorem GV.tup {xs ys : List AV} (hs : GVs src h h' xs ys) : GV src h h' (.tup xs) (.tup ys) := fun X ι w v s hv => by
  simp only [V] at hv ⊢
  obtain ⟨a, e, h1⟩ := hv
  exact ⟨a, e, hs.Vs s h1⟩
theorem GV.fn {f : FuncId} {xs ys : List AV} (hs : GVs src h h' xs ys) : GV src h h' (.fn f xs) (.fn f ys) := fun X ι w v s hv => by
  simp only [V] at hv ⊢
  obtain ⟨a, e, h1⟩ := hv
  exact ⟨a, e, hs.Vs s h1⟩
theorem gone {X : Nat → Prop} {ι : Zah} {w : World} (s : Sim X h ι w) {i : Id} {b c : Nat} (hl : ι i = some (.at b c)) (hd : ∀ j, (h' j).isSome = true → src j ≠ some i) : ¬ Own X (plc src h' ι) b := by
  rintro (hx | ⟨j, d, ej⟩)
  · exact s.apart i b c hl hx
  · simp only [plc] at ej
    split at ej
    · cases ej
    · rename_i b' hb'
      split at ej
      · rename_i i' hi'
        have := s.inj i' i b d c ej hl
        subst this
        exact hd j (by rw [hb']; rfl) hi'
      · cases ej
theorem immVc {w : World} {own : Nat → Prop} {ι ι' : Zah} : ∀ (xs : List AV) (b o : Nat), Zb6 xs = true → Vc w own xs ι b o → Vc w own xs ι' b o
  | [], _, _, _, _ => by simp only [Vc]
  | c :: cs, b, o, hi, hv => by
      simp only [Zb6, Bool.and_eq_true] at hi
      simp only [Vc] at hv ⊢
      obtain ⟨⟨v, e, h0, h1⟩, h2⟩ := hv
      exact ⟨⟨v, e, h0, immD_V _ _ hi.1 h1⟩, immVc cs b (o + 1) hi.2 h2⟩
theorem GV.frz {i : Id} {imm : Bool} {sz st len m k : Nat} {f g : Nat → List AV} (hd : ∀ j, (h' j).isSome = true → src j ≠ some i) (hh : h i = some (.row imm sz k f)) (hk : st + len ≤ k) (hm : len = m) (hf : ∀ x, x < len → GVs src h h' (f (st + x)) (g x)) (hg : ∀ x, x < len → Zb6 (g x) = true) :
    GV src h h' (.rs i sz st len) (.sl sz m g) := by
  intro X ι w v s hv
  subst hm
  simp only [V] at hv ⊢
  cases hl : ι i with
  | none => rw [hl] at hv; exact hv.elim
  | some l =>
    have hb := s.rel i _ l hh hl
    rw [hl] at hv
    cases l with
    | ghost => exact hv.elim
    | nil =>
      simp only at hv
      obtain ⟨e, e1, e2⟩ := hv
      subst e1; subst e2
      exact ⟨none, 0, e, Nat.le_refl _, Nat.zero_le _, .inl rfl⟩
    | «at» b c =>
      simp only at hv
      obtain ⟨p, e, h1, h2, h3⟩ := hv
      refine ⟨some p, c - st, e, by omega, h2, ?_⟩
      by_cases h0 : len = 0
      · exact .inl h0
      · right
        obtain ⟨arr, T, e1, h4, h5, h6⟩ := hb
        have hp : p = ⟨b, st * sz, none⟩ := h3.resolve_left (by omega)
        refine ⟨b, st * sz, by rw [hp], s.lt hl, gone s hl hd, fun x hx => ?_⟩
        have h7 := h6 (st + x) (by omega)
        have h8 := (hf x hx).Vc s (Zcj imm _ _ _ h7.2)
        refine ⟨by rw [← (hf x hx).len]; exact h7.1, ?_⟩
        rw [← Nat.add_mul]
        exact immVc _ _ _ (hg x hx) h8
end
def GB (src : Id → Option Id) (h h' : Zao) (b0 b : Zam) : Prop := ∀ (X : Nat → Prop) (ι : Zah) (w : World) (l : Loc), Sim X h ι w → BRel w (Own X ι) ι b0 l → BRel w (Own X (plc src h' ι)) (plc src h' ι) b l
section
variable {src : Id → Option Id} {h h' : Zao}
theorem GB.row {imm imm' : Bool} {sz n n' : Nat} {f g : Nat → List AV} (hn : n' ≤ n) (hf : ∀ i, i < n' → GVs src h h' (f i) (g i)) (hg : imm' = true → ∀ i, i < n' → Zb6 (g i) = true) : GB src h h' (.row imm sz n f) (.row imm' sz n' g) := by
  intro X ι w l s hr
  cases l with
  | ghost => trivial
  | nil => simp only [BRel] at hr ⊢; omega
  | «at» b c =>
    simp only [BRel] at hr ⊢
    obtain ⟨arr, T, h1, h2, h3, h4⟩ := hr
    refine ⟨arr, T, h1, by omega, h3, fun i hi => ?_⟩
    have h5 := h4 i (by omega)
    have h6 := (hf i hi).Vc s (Zcj imm _ _ _ h5.2)
    refine ⟨by rw [← (hf i hi).len]; exact h5.1, ?_⟩
    cases imm' with
    | true => exact immVc _ _ _ (hg rfl i hi) h6
    | false => exact h6
theorem GB.rowI {imm imm' : Bool} {sz n n' : Nat} {f g : Nat → List AV} (hn : n' ≤ n) (hf : ∀ i, i < n' → Zb6 (f i) = true ∧ f i = g i) : GB src h h' (.row imm sz n f) (.row imm' sz n' g) :=
  GB.row hn (fun i hi => by rw [← (hf i hi).2]; exact GVs.imm (hf i hi).1) (fun _ i hi => by rw [← (hf i hi).2]; exact (hf i hi).1)
end
theorem Weak.gen {n : Nat} {L : List Id} {σ τ : ASt} (src : Id → Option Id) (inj : ∀ j j' i, (τ.h j).isSome = true → (τ.h j').isSome = true → src j = some i → src j' = some i → j = j')
    (hh : ∀ j b, τ.h j = some b → match src j with | some i => ∃ b0, σ.h i = some b0 ∧ GB src σ.h τ.h b0 b | none => ∃ imm sz g, b = .row imm sz 0 g)
    (ht : ∀ t, GV src σ.h τ.h (σ.tm t) (τ.tm t)) (hL : ∀ i ∈ L, Zeb i = true → (τ.h i).isSome = true ∧ src i = some i) : Weak n L σ τ := by
  intro X ι a w s
  refine ⟨plc src τ.h ι, ⟨⟨fun j => ?_, fun j blk l e1 e2 => ?_, fun j j' b c d e1 e2 => ?_, fun j b c e => ?_, s.sim.below⟩, s.defers, s.size, fun t => ht t X ι w _ s.sim (s.tm t)⟩, ⟨⟨Fr.refl _ _, fun b h => .inl (Zfq h)⟩, fun i hi hp l _ e => ?_⟩⟩
  · simp only [plc]
    cases e : τ.h j with
    | none => rfl
    | some b =>
      have := hh j b e
      cases hs : src j with
      | none => rfl
      | some i =>
        rw [hs] at this
        obtain ⟨b0, h1, _⟩ := this
        simp only [s.sim.dom i, h1]; rfl
  · have := hh j blk e1
    simp only [plc, e1] at e2
    cases hs : src j with
    | none =>
      rw [hs] at this e2
      obtain ⟨imm, sz, g, rfl⟩ := this
      cases e2; rfl
    | some i =>
      rw [hs] at this e2
      obtain ⟨b0, h1, h2⟩ := this
      exact h2 X ι w l s.sim (s.sim.rel i b0 l h1 e2)
  · simp only [plc] at e1 e2
    split at e1
    · cases e1
    · rename_i x hx
      split at e2
      · cases e2
      · rename_i y hy
        split at e1
        · rename_i i hi
          split at e2
          · rename_i i' hi'
            have := s.sim.inj i i' b c d e1 e2
            subst this
            exact inj j j' i (by rw [hx]; rfl) (by rw [hy]; rfl) hi hi'
          · cases e2
        · cases e1
  · simp only [plc] at e
    split at e
    · cases e
    · split at e
      · exact s.sim.apart _ b c e
      · cases e
  · obtain ⟨h1, h2⟩ := hL i hi hp
    cases hb : τ.h i with
    | none => rw [hb] at h1; cases h1
    | some b => simp only [plc, hb, h2]; exact e
end Dv
namespace Dv
open Go
def famC (k : Nat) (g : Nat → Nat → Option Zam) : Zao := fun j => bif Nat.beq j.1 k then g j.2.1 j.2.2 else none
def orH (a b : Zao) : Zao := fun j => match a j with
  | some x => some x
  | none => b j
def noH : Zao := fun _ => none
def mkF (tl : List (Nat × AV)) (hl : List (Id × Zam)) (F : Zao) : ASt := ⟨lookT tl, orH (Zay hl) F⟩
def srcL : List (Id × Option Id) → Id → Option Id
  | [], j => some j
  | (c, o) :: r, j => bif idEq c j then o else srcL r j
theorem srcL_spec : ∀ (S : List (Id × Option Id)) (j : Id), (∃ o, (j, o) ∈ S ∧ srcL S j = o) ∨ (j ∉ S.map (·.1) ∧ srcL S j = some j)
  | [], j => .inr ⟨by simp, rfl⟩
  | (c, o) :: r, j => by
      simp only [srcL]
      cases e : idEq c j with
      | true => have := Zav.1 e; subst this; exact .inl ⟨o, by simp, rfl⟩
      | false =>
        have hne := Zbr.1 e
        rcases srcL_spec r j with ⟨o', h1, h2⟩ | ⟨h1, h2⟩
        · exact .inl ⟨o', by simp [h1], h2⟩
        · exact .inr ⟨by simp only [List.map_cons, List.mem_cons, not_or]; exact ⟨Ne.symm hne, h1⟩, h2⟩
def tgts : List (Id × Option Id) → List Id
  | [] => []
  | (_, some i) :: r => i :: tgts r
  | (_, none) :: r => tgts r
theorem mem_tgts {S : List (Id × Option Id)} {j i : Id} (h : (j, some i) ∈ S) : i ∈ tgts S := by
  induction S with
  | nil => cases h
  | cons p r ih =>
    obtain ⟨c, o⟩ := p
    rcases List.mem_cons.1 h with e | e
    · cases e; simp [tgts]
    · cases o with
      | none => simp only [tgts]; exact ih e
      | some i' => simp only [tgts]; exact List.mem_cons_of_mem _ (ih e)
theorem tgts_one {S : List (Id × Option Id)} (hn : Zcl (tgts S) = true) {j j' i : Id} (h : (j, some i) ∈ S) (h' : (j', some i) ∈ S) : j = j' := by
  induction S with
  | nil => cases h
  | cons p r ih =>
    obtain ⟨c, o⟩ := p
    cases o with
    | none =>
      simp only [tgts] at hn
      rcases List.mem_cons.1 h with e | e
      · cases e
      · rcases List.mem_cons.1 h' with e' | e'
        · cases e'
        · exact ih hn e e'
    | some i0 =>
      simp only [tgts, Zcl, Bool.and_eq_true] at hn
      rcases List.mem_cons.1 h with e | e
      · cases e
        rcases List.mem_cons.1 h' with e' | e'
        · cases e'; rfl
        · exact absurd (mem_tgts e') (Zb5 hn.1)
      · rcases List.mem_cons.1 h' with e' | e'
        · cases e'; exact absurd (mem_tgts e) (Zb5 hn.1)
        · exact ih hn.2 e e'
theorem Zeu {S : List (Id × Option Id)} {h' : Zao} (hn : Zcl (tgts S) = true) (hf : ∀ i ∈ tgts S, h' i = none ∨ i ∈ S.map (·.1)) (j j' i : Id) (e1 : (h' j).isSome = true) (e2 : (h' j').isSome = true) (h1 : srcL S j = some i) (h2 : srcL S j' = some i) : j = j' := by
  rcases srcL_spec S j with ⟨o, a, b⟩ | ⟨a, b⟩
  · rcases srcL_spec S j' with ⟨o', a', b'⟩ | ⟨a', b'⟩
    · rw [h1] at b; rw [h2] at b'; subst b; subst b'
      exact tgts_one hn a a'
    · rw [h1] at b; subst b
      rw [h2] at b'; cases b'
      rcases hf _ (mem_tgts a) with h | h
      · rw [h] at e2; cases e2
      · exact absurd h a'
  · rcases srcL_spec S j' with ⟨o', a', b'⟩ | ⟨a', b'⟩
    · rw [h2] at b'; subst b'
      rw [h1] at b; cases b
      rcases hf _ (mem_tgts a') with h | h
      · rw [h] at e1; cases e1
      · exact absurd h a
    · rw [h1] at b; rw [h2] at b'; cases b; cases b'; rfl
inductive HLs (src : Id → Option Id) (h h' : Zao) : List (Id × Zam) → Prop where
  | nil : HLs src h h' []
  | old {j i : Id} {b0 b : Zam} {r : List (Id × Zam)} (hs : src j = some i) (hi : h i = some b0) (hb : GB src h h' b0 b) (hr : HLs src h h' r) : HLs src h h' ((j, b) :: r)
  | new {j : Id} {imm : Bool} {sz : Nat} {g : Nat → List AV} {r : List (Id × Zam)} (hs : src j = none) (hr : HLs src h h' r) : HLs src h h' ((j, .row imm sz 0 g) :: r)
def HOk (src : Id → Option Id) (h h' : Zao) (j : Id) (b : Zam) : Prop := match src j with
  | some i => ∃ b0, h i = some b0 ∧ GB src h h' b0 b
  | none => ∃ imm sz g, b = .row imm sz 0 g
theorem HLs.spec {src : Id → Option Id} {h h' : Zao} {j : Id} {b : Zam} : ∀ {l : List (Id × Zam)}, HLs src h h' l → Zay l j = some b → HOk src h h' j b
  | _, .nil, e => by cases e
  | _, .old (j := k) hs hi hb hr, e => by
      simp only [Zay] at e
      cases e1 : idEq k j with
      | true => have := Zav.1 e1; subst this; rw [e1] at e; cases e; unfold HOk; rw [hs]; exact ⟨_, hi, hb⟩
      | false => rw [e1] at e; exact hr.spec e
  | _, .new (j := k) hs hr, e => by
      simp only [Zay] at e
      cases e1 : idEq k j with
      | true => have := Zav.1 e1; subst this; rw [e1] at e; cases e; unfold HOk; rw [hs]; exact ⟨_, _, _, rfl⟩
      | false => rw [e1] at e; exact hr.spec e
inductive TLg (src : Id → Option Id) (h h' : Zao) (tm : Nat → AV) : List (Nat × AV) → Prop where
  | nil : TLg src h h' tm []
  | cons {t : Nat} {y : AV} {r : List (Nat × AV)} (hv : GV src h h' (tm t) y) (hr : TLg src h h' tm r) : TLg src h h' tm ((t, y) :: r)
theorem TLg.spec {src : Id → Option Id} {h h' : Zao} {tm : Nat → AV} : ∀ {l : List (Nat × AV)} (t : Nat), TLg src h h' tm l → GV src h h' (tm t) (lookT l t)
  | [], _, _ => GV.any
  | (u, y) :: r, t, .cons hv hr => by
      simp only [lookT]
      cases e : Nat.beq u t with
      | true => have := Nat.eq_of_beq_eq_true e; subst this; exact hv
      | false => exact hr.spec t
theorem Weak.fam {n : Nat} {L : List Id} {σ : ASt} {tl : List (Nat × AV)} {hl : List (Id × Zam)} {F : Zao} (S : List (Id × Option Id)) (hn : Zcl (tgts S) = true) (hf : ∀ i ∈ tgts S, orH (Zay hl) F i = none ∨ i ∈ S.map (·.1))
    (ht : TLg (srcL S) σ.h (orH (Zay hl) F) σ.tm tl) (hh : HLs (srcL S) σ.h (orH (Zay hl) F) hl) (hF : ∀ j b, F j = some b → HOk (srcL S) σ.h (orH (Zay hl) F) j b)
    (hL : ∀ i ∈ L, Zeb i = true → (orH (Zay hl) F i).isSome = true ∧ srcL S i = some i) : Weak n L σ (mkF tl hl F) := by
  refine Weak.gen (τ := mkF tl hl F) (srcL S) (Zeu hn hf) (fun j b e => ?_) (fun t => ht.spec t) hL
  have e' : orH (Zay hl) F j = some b := e
  have : HOk (srcL S) σ.h (orH (Zay hl) F) j b := by
    unfold orH at e'
    cases e1 : Zay hl j with
    | some x => rw [e1] at e'; cases e'; exact hh.spec e1
    | none => rw [e1] at e'; exact hF j b e'
  exact this
def HF (P : Program) (f : FuncId) (args : List AV) (r : AV) (h1 : Zao) : Prop :=
  Zei P f ∧ ∀ (X : Nat → Prop) (w : World) (vals : List Value), (∀ b, X b → b < w.heap.size) → Vs w X args ι0 vals →
    Calls P f vals.toArray w fun e w' => ∃ v ι', e = .returned v ∧ Fr (fun _ => False) w w' ∧ Sim X h1 ι' w' ∧ (∀ b, Mine ι' b → w.heap.size ≤ b) ∧ V w' (Own X ι') r ι' v
def LeavesF (T : Zba) (fn : Func) (r : AV) (h1 : Zao) (e : Exit) (τ : ASt) : Prop := match e with
  | .ret | .normal => ∃ xs src, Zd0 T τ fn.results.toList = some xs ∧ (∀ j j' i, (h1 j).isSome = true → (h1 j').isSome = true → src j = some i → src j' = some i → j = j') ∧ (∀ j b, h1 j = some b → HOk src τ.h h1 j b) ∧ GV src τ.h h1 (retAV xs) r
  | _ => False
theorem sim_gen {X : Nat → Prop} {h h' : Zao} {ι : Zah} {w : World} (s : Sim X h ι w) (src : Id → Option Id) (inj : ∀ j j' i, (h' j).isSome = true → (h' j').isSome = true → src j = some i → src j' = some i → j = j')
    (hh : ∀ j b, h' j = some b → HOk src h h' j b) : Sim X h' (plc src h' ι) w := by
  have st : St 0 X ⟨fun _ => .any, h⟩ ι { tmps := #[], defers := [] } w := ⟨s, rfl, rfl, fun t => by simp only [V]⟩
  obtain ⟨_, s', _⟩ : ∃ ι', St 0 X ⟨fun _ => .any, h'⟩ ι' { tmps := #[], defers := [] } w ∧ ι' = plc src h' ι := by
    refine ⟨_, ⟨?_, rfl, rfl, fun t => by simp only [V]⟩, rfl⟩
    refine ⟨fun j => ?_, fun j blk l e1 e2 => ?_, fun j j' b c d e1 e2 => ?_, fun j b c e => ?_, s.below⟩
    · simp only [plc]
      cases e : h' j with
      | none => rfl
      | some b =>
        have := hh j b e
        unfold HOk at this
        cases hs : src j with
        | none => rfl
        | some i =>
          rw [hs] at this
          obtain ⟨b0, h1, _⟩ := this
          simp only [s.dom i, h1]; rfl
    · have := hh j blk e1
      unfold HOk at this
      simp only [plc] at e2
      have e1' : h' j = some blk := e1
      rw [e1'] at e2
      cases hs : src j with
      | none =>
        rw [hs] at this e2
        obtain ⟨imm, sz, g, rfl⟩ := this
        cases e2; rfl
      | some i =>
        rw [hs] at this e2
        obtain ⟨b0, h1, h2⟩ := this
        exact h2 X ι w l s (s.rel i b0 l h1 e2)
    · simp only [plc] at e1 e2
      split at e1
      · cases e1
      · rename_i x hx
        split at e2
        · cases e2
        · rename_i y hy
          split at e1
          · rename_i i hi
            split at e2
            · rename_i i' hi'
              have := s.inj i i' b c d e1 e2
              subst this
              exact inj j j' i (by rw [hx]; rfl) (by rw [hy]; rfl) hi hi'
            · cases e2
          · cases e1
    · simp only [plc] at e
      split at e
      · cases e
      · split at e
        · exact s.apart _ b c e
        · cases e
  subst_vars
  exact s'.sim
theorem Zfz {P : Program} {T : Zba} (hT : TOk P T) {f : FuncId} {fn : Func} {c : Code} {args : List AV} {r : AV} {h1 : Zao} (hf : P.funcs[f]? = some fn) (hb : fn.body = some c) (hname : (fn.name == "runtime.NumGoroutine") = false) (hn : args.length ≤ fn.ntmps)
    (h : AWp P fn.ntmps [] c (LeavesF T fn r h1) (entry args)) : HF P f args r h1 := by
  refine ⟨⟨fn, hf, by rw [hb]; rfl, hname⟩, fun X w vals hX hV => ?_⟩
  refine AWp.calls hf hb h (entry_St (n := fn.ntmps) hX hV hn) ?_ (fun _ _ h => h)
  rintro e τ ι' a' w' hq hs hg
  have hfr : Fr (fun _ => False) w w' := hg.goes.fr.weak (fun x hx => by
    obtain ⟨i, c, e⟩ := hx
    cases e)
  have hnew : ∀ b, Mine ι' b → w.heap.size ≤ b := fun b hb => by
    rcases hg.goes.ext b hb with ⟨i, d, e⟩ | h
    · cases e
    · exact h
  have fin : (∃ xs src, Zd0 T τ fn.results.toList = some xs ∧ (∀ j j' i, (h1 j).isSome = true → (h1 j').isSome = true → src j = some i → src j' = some i → j = j') ∧ (∀ j b, h1 j = some b → HOk src τ.h h1 j b) ∧ GV src τ.h h1 (retAV xs) r) →
      a'.defers = [] ∧ ∃ v, (results fn a'.tmps).run P w' = .ok v w' ∧ ∃ v' ι', Ending.returned v = .returned v' ∧ Fr (fun _ => False) w w' ∧ Sim X h1 ι' w' ∧ (∀ b, Mine ι' b → w.heap.size ≤ b) ∧ V w' (Own X ι') r ι' v' := by
    rintro ⟨xs, src, e1, e2, e3, e4⟩
    obtain ⟨v, h3, h4⟩ := Zek (P := P) hT hs e1
    exact ⟨hs.defers, v, h3, v, plc src h1 ι', rfl, hfr, sim_gen hs.sim src e2 e3, fun b hb => hnew b (Zfq hb), e4 X ι' w' v hs.sim h4⟩
  cases e with
  | ret => exact fin hq
  | normal => exact fin hq
  | _ => exact hq.elim
theorem HF.fc {P : Program} {f : FuncId} {args : List AV} {r y : AV} {h1 : Zao} (h : HF P f args r h1) (hr : Rel h1 r y) : FC P f args y := by
  refine ⟨h.1, fun X w vals hX hV => ?_⟩
  refine (h.2 X w vals hX hV).mono ?_
  rintro e w' ⟨v, ι', rfl, h2, h3, _, h5⟩
  exact ⟨v, rfl, h2, hr X ι' w' v h3 h5⟩
theorem QH.ofF {P : Program} {h : Zao} {f : FuncId} {args : List AV} {r : AV} {h1 : Zao} (hc : HF P f args r h1) (hi : Zb6 args = true) (hfree : ∀ i, (h1 i).isSome = true → h i = none) : QH P h f args [] h1 r := by
  refine ⟨hc.1, fun X ι w vals s hV => ?_⟩
  refine (hc.2 (Own X ι) w vals (fun b hb => s.own_lt hb) (immD_Vs _ _ hi hV)).mono ?_
  rintro e w' ⟨v, ι', rfl, hfr, s', hnew, hv⟩
  let κ : Zah := fun j => match h1 j with
    | some _ => ι' j
    | none => ι j
  have κ1 : ∀ {j}, (h1 j).isSome = true → κ j = ι' j := fun {j} e => by
    simp only [κ]; cases hb : h1 j with
    | none => rw [hb] at e; cases e
    | some b => rfl
  have κ0 : ∀ {j}, h1 j = none → κ j = ι j := fun {j} e => by simp only [κ, e]
  have hmine : ∀ b, Mine κ b → Mine ι b ∨ Mine ι' b := by
    rintro b ⟨j, c, e⟩
    cases hb : h1 j with
    | none => rw [κ0 hb] at e; exact .inl ⟨j, c, e⟩
    | some x => rw [κ1 (by rw [hb]; rfl)] at e; exact .inr ⟨j, c, e⟩
  have sub : Sub ι κ := fun j l e => by
    cases hb : h1 j with
    | none => rw [κ0 hb]; exact e
    | some x =>
      have := s.lost (hfree j (by rw [hb]; rfl))
      rw [this] at e; cases e
  have sub' : Sub ι' κ := fun j l e => by
    cases hb : h1 j with
    | none => have := s'.lost hb; rw [this] at e; cases e
    | some x => rw [κ1 (by rw [hb]; rfl)]; exact e
  have k : Keep w w' (Own X ι) (Own X κ) := ⟨hfr.size, fun b hb _ => hfr.block b hb (fun h => h), fun b hb h => h.imp id (fun hm => (hmine b hm).resolve_right (fun h2 => by have := hnew b h2; omega))⟩
  have k' : Keep w' w' (Own (Own X ι) ι') (Own X κ) := ⟨Nat.le_refl _, fun _ _ _ => rfl, fun b _ h => by
    rcases h with h | h
    · exact .inl (.inl h)
    · rcases hmine b h with h2 | h2
      · exact .inl (.inr h2)
      · exact .inr h2⟩
  refine ⟨v, κ, rfl, ⟨fun j => ?_, fun j blk l e1 e2 => ?_, fun j j' b c d e1 e2 => ?_, fun j b c e => ?_, fun b hb => Nat.lt_of_lt_of_le (s.below b hb) hfr.size⟩, fun y u' hy => Zbp k _ _ sub hy, Zbp k' _ _ sub' hv, ⟨hfr.weak (fun _ h => h.elim), fun b hb => (hmine b hb).imp id (hnew b)⟩⟩
  · simp only [bigH]
    cases hb : h1 j with
    | none => rw [κ0 hb, s.dom j]; simp only [memI, cond_false]; cases h j <;> rfl
    | some x => rw [κ1 (by rw [hb]; rfl), s'.dom j, hb]
  · simp only [bigH] at e1
    cases hb : h1 j with
    | some x =>
      rw [hb] at e1; cases e1
      rw [κ1 (by rw [hb]; rfl)] at e2
      exact Zbm k' sub' _ _ (fun _ _ _ => rfl) (s'.rel j _ l hb e2)
    | none =>
      rw [hb] at e1
      rw [κ0 hb] at e2
      simp only [memI, cond_false] at e1
      cases hh : h j with
      | none => rw [hh] at e1; cases e1
      | some b0 =>
        rw [hh] at e1
        simp only [Option.map_some, Option.some.injEq] at e1
        subst e1
        refine Zbm k sub _ _ (fun b c hl => ?_) (s.rel j b0 l hh e2)
        subst hl
        exact hfr.block b (s.lt e2) (fun h => h)
  · cases hb : h1 j with
    | none =>
      rw [κ0 hb] at e1
      cases hb' : h1 j' with
      | none => rw [κ0 hb'] at e2; exact s.inj _ _ _ _ _ e1 e2
      | some x =>
        rw [κ1 (by rw [hb']; rfl)] at e2
        have := s.lt e1; have := hnew b ⟨_, _, e2⟩; omega
    | some x =>
      rw [κ1 (by rw [hb]; rfl)] at e1
      cases hb' : h1 j' with
      | none =>
        rw [κ0 hb'] at e2
        have := s.lt e2; have := hnew b ⟨_, _, e1⟩; omega
      | some x' => rw [κ1 (by rw [hb']; rfl)] at e2; exact s'.inj _ _ _ _ _ e1 e2
  · cases hb : h1 j with
    | none => rw [κ0 hb] at e; exact s.apart _ _ _ e
    | some x => rw [κ1 (by rw [hb]; rfl)] at e; exact fun hx => s'.apart _ _ _ e (.inl hx)
end Dv
namespace Dv
open Go
def notSrc (S : List (Id × Option Id)) (i : Id) : List (Id × Zam) → Bool
  | [] => true
  | (j, _) :: r => (match srcL S j with | some i' => !(idEq i' i) | none => true) && notSrc S i r
theorem hd_of {S : List (Id × Option Id)} {F : Zao} {i : Id} : ∀ {hl : List (Id × Zam)}, notSrc S i hl = true → (∀ j, (F j).isSome = true → srcL S j ≠ some i) → ∀ j, (orH (Zay hl) F j).isSome = true → srcL S j ≠ some i := by
  intro hl hn hF j hj
  unfold orH at hj
  cases e : Zay hl j with
  | none => rw [e] at hj; exact hF j hj
  | some b =>
    clear hj
    induction hl with
    | nil => cases e
    | cons p r ih =>
      obtain ⟨k, c⟩ := p
      simp only [notSrc, Bool.and_eq_true] at hn
      simp only [Zay] at e
      cases e1 : idEq k j with
      | true =>
        have := Zav.1 e1; subst this
        intro e2
        rw [e2] at hn
        simp [Zav.2 rfl] at hn
      | false => rw [e1] at e; exact ih hn.2 e
theorem hd_no {S : List (Id × Option Id)} {i : Id} {hl : List (Id × Zam)} (hn : notSrc S i hl = true) : ∀ j, (orH (Zay hl) noH j).isSome = true → srcL S j ≠ some i := hd_of hn (fun _ h => by cases h)
theorem noF {P : Id → Zam → Prop} : ∀ j b, noH j = some b → P j b := fun _ _ h => by cases h
theorem lt0 {P : Nat → Prop} : ∀ x, x < 0 → P x := fun x h => absurd h (Nat.not_lt_zero x)
theorem ltS {P : Nat → Prop} {n : Nat} (h0 : P 0) (h : ∀ x, x < n → P (x + 1)) : ∀ x, x < n + 1 → P x := fun x hx => match x, hx with
  | 0, _ => h0
  | x + 1, hx => h x (Nat.lt_of_succ_lt_succ hx)
theorem GB.one {src : Id → Option Id} {h h' : Zao} {imm imm' : Bool} {sz : Nat} {f g : Nat → List AV} (hf : GVs src h h' (f 0) (g 0)) (hg : imm' = true → Zb6 (g 0) = true) : GB src h h' (.row imm sz 1 f) (.row imm' sz 1 g) :=
  GB.row (Nat.le_refl _) (ltS hf lt0) (fun e => ltS (hg e) lt0)
end Dv
namespace Dv
open Go
end Dv
namespace Dv
open Go
theorem fAV {x y : AV} {k : AV → Prop} (e : x = y) (h : Zc0 y k) : Zc0 x k := e ▸ h
theorem orH_some {a b : Zao} {j : Id} {x : Zam} (h : orH a b j = some x) : a j = some x ∨ (a j = none ∧ b j = some x) := by
  unfold orH at h
  cases e : a j with
  | none => rw [e] at h; exact .inr ⟨rfl, h⟩
  | some y => rw [e] at h; exact .inl h
theorem famC_some {k : Nat} {g : Nat → Nat → Option Zam} {j : Id} {x : Zam} (h : famC k g j = some x) : ∃ p q, j = (k, p, q) ∧ g p q = some x := by
  obtain ⟨a, p, q⟩ := j
  unfold famC at h
  simp only at h
  cases e : Nat.beq a k with
  | false => rw [e] at h; cases h
  | true => have := Nat.eq_of_beq_eq_true e; subst this; rw [e] at h; exact ⟨p, q, rfl, h⟩
theorem HOk.mk {src : Id → Option Id} {h h' : Zao} {j i : Id} {b0 b : Zam} (hs : src j = some i) (hi : h i = some b0) (hb : GB src h h' b0 b) : HOk src h h' j b := by
  unfold HOk; rw [hs]; exact ⟨b0, hi, hb⟩
end Dv
namespace Dv
open Go
theorem GV.cc {src : Id → Option Id} {h h' : Zao} {x y x' y' : AV} (ex : x = x') (ey : y = y') (hv : GV src h h' x' y') : GV src h h' x y := ex ▸ ey ▸ hv
end Dv
namespace Dv
open Go
theorem HF.weak {P : Program} {f : FuncId} {args : List AV} {r r' : AV} {h1 h2 : Zao} (h : HF P f args r h1) (src : Id → Option Id) (inj : ∀ j j' i, (h2 j).isSome = true → (h2 j').isSome = true → src j = some i → src j' = some i → j = j')
    (hh : ∀ j b, h2 j = some b → HOk src h1 h2 j b) (hv : GV src h1 h2 r r') : HF P f args r' h2 := by
  refine ⟨h.1, fun X w vals hX hV => ?_⟩
  refine (h.2 X w vals hX hV).mono ?_
  rintro e w' ⟨v, ι', rfl, a1, a2, a3, a4⟩
  exact ⟨v, plc src h2 ι', rfl, a1, sim_gen a2 src inj hh, fun b hb => a3 b (Zfq hb), hv X ι' w' v a2 a4⟩
end Dv
namespace Dv
open Go
section
variable {P : Program} {T : Zba} {n : Nat} {L : List Id} {X : Nat → Prop} {all : List Oper} {σ : ASt} {ι : Zah} {a : Act} {w : World}
theorem max_ok (s : St n X σ ι a w) {o : Oper} {c : Call} {x y : Operand} {k : IntKind} {p q : Int}
    (ho : o.op = .call c) (hc : c.callee = .builtin .max) (ha : c.args = #[x, y]) (hx : σ.opv x = .int k p) (hy : σ.opv y = .int k q) : OpOk P n X σ ι a w o (Zat o) .none (.int k (max p q)) := by
  have h1 := s.opv x
  have h2 := s.opv y
  rw [hx] at h1
  rw [hy] at h2
  simp only [V] at h1 h2
  refine OpOk.pure s (.int k (max p q)) ?_ ?_
  · simp only [execOp, ho, resolve, hc, ha, Sem.run_bind, Sem.run_pure, Result.andThen_ok, invoke]
    simp only [builtin, Builtin.max_]
    have e : (if q > p then q else p) = max p q := by rw [Int.max_def]; split <;> split <;> omega
    simp [h1.1, h2.1, Builtin.max2, e]
  · simp only [V]
    refine ⟨trivial, ?_⟩
    rw [Int.max_def]; split <;> omega
theorem AWp_handK (hT : TOk P T) {id : Nat} {ops : Array Oper} {Q : Exit → ASt → Prop} {σ : ASt} (pre : List Oper) (o : Oper) (r : List Oper) (e : ops.toList = pre ++ o :: r) (hr : regOk n ops.toList = true) (hg : Zaq ops.toList = []) (hog : o.guard = none)
    {K : ASt → Prop} (hK0 : ∀ τ, K τ → ∀ (X : Nat → Prop) ι a w, St n X τ ι a w → ∃ e : Eff, OpOk P n X τ ι a w o (Zat o) e.up e.val ∧ Hand P T ops.toList pre.length o r τ (Q .normal) e)
    (h : FOps P T ops.toList (Zaq ops.toList) 0 pre σ.tm σ.h K) : AWp P n L (.region id ops false) Q σ := by
  refine AWp.region hr (fun X ι a w s => ?_)
  have hR := Ze3 hr
  have hlen : ops.size = pre.length + (1 + r.length) := by
    have := congrArg List.length e; simp at this; omega
  have hrange : List.range ops.size = List.range' 0 pre.length ++ (pre.length :: List.range' (pre.length + 1) r.length) := by
    rw [List.range_eq_range', hlen, ← List.range'_append (s := 0) (m := pre.length) (n := 1 + r.length) (step := 1), Nat.add_comm 1 r.length, List.range'_succ]
    simp
  rw [hrange]
  have key := FPre_sound (L := L) (all := ops.toList) (Q := fun e a' w' => e = .normal ∧ ∃ τ ι', Q .normal τ ∧ St n X τ ι' a' w' ∧ Zbo L X ι ι' w w') (rest := pre.length :: List.range' (pre.length + 1) r.length) (ι0 := ι) (w0 := w) hT hR hg ?_ pre 0 σ ι a w
    (fun j hj => by rw [e, Nat.zero_add, List.getElem?_append_left hj]) h (by simpa using StG.of_St (ops := ops) s) (Zbo.refl L X ι w)
  · simpa using key
  intro τ ι' a' w' hK hs hgo
  rw [wpOps_cons]
  have ho : ops.toList[pre.length]? = some o := by rw [e]; simp
  have ho' : ops.toList.toArray[pre.length]? = some o := by simpa using ho
  obtain ⟨ef, ⟨rr, v, w1, ι1, h1, h2, h3, h4, h5, h6⟩, hu, hK'⟩ := hK0 τ hK X ι' a' w' hs
  have hw : Region.wanted o (yielded ops.toList.toArray a'.tmps) = true := by simp [Region.wanted, hog]
  unfold wpOp
  rw [ho']
  simp only [hw, if_true]
  left
  have hS := StG.of_St (ops := ops.toList.toArray) hs
  have go : ∀ val, V w1 (Own X ι1) ef.val ι1 val → wpOps P ops.toList.toArray (fun e a' w' => e = .normal ∧ ∃ τ ι', Q .normal τ ∧ St n X τ ι' a' w' ∧ Zbo L X ι ι' w w') (List.range' (pre.length + 1) r.length) (a'.put o.dst val) w1 := by
    intro val hv
    have hh : Sim X (upS (Zat o) ef.up τ).h ι1 w1 := h3
    refine Zfi (L := L) (K := Q .normal) (Q := fun e a' w' => e = .normal ∧ ∃ τ ι', Q .normal τ ∧ St n X τ ι' a' w' ∧ Zbo L X ι ι' w w') (ι0 := ι) (w0 := w) hT hR (fun τ ι' a' w' h1 h2 h3 => ⟨rfl, τ, ι', h1, h2, h3⟩) r (pre.length + 1) _ ι1 _ w1 (fun j => ?_) hK'
      (app_StG hR hS ho hu hh h4 (.inl ⟨hw, hv⟩)) (hgo.trans ⟨h6, pin_of hu h4⟩)
    rw [e, List.getElem?_append_right (by omega)]
    rw [show pre.length + 1 + j - pre.length = j + 1 by omega, List.getElem?_cons_succ]
  unfold Oper.wp
  rw [h1]
  rcases h2 with h2 | ⟨h2, h2'⟩
  · subst h2; exact go v h5
  · subst h2; subst h2'; exact go undef h5
theorem AWp_max (hT : TOk P T) {id : Nat} {ops : Array Oper} {Q : Exit → ASt → Prop} {σ : ASt} (k : Nat) {o : Oper} {r : List Oper} {c : Call} {x y : Operand} (e : ops.toList = ops.toList.take k ++ o :: r) (hr : regOk n ops.toList = true) (hg : Zaq ops.toList = []) (hog : o.guard = none)
    (ho : o.op = .call c) (hc : c.callee = .builtin .max) (ha : c.args = #[x, y])
    (h : FOps P T ops.toList (Zaq ops.toList) 0 (ops.toList.take k) σ.tm σ.h fun τ => ∃ kd p q, τ.opv x = .int kd p ∧ τ.opv y = .int kd q ∧ Hand P T ops.toList (ops.toList.take k).length o r τ (Q .normal) ⟨.int kd (max p q), .none, []⟩) : AWp P n L (.region id ops false) Q σ := by
  refine AWp_handK hT (ops.toList.take k) o r e hr hg hog (K := fun τ => ∃ kd p q, τ.opv x = .int kd p ∧ τ.opv y = .int kd q ∧ Hand P T ops.toList (ops.toList.take k).length o r τ (Q .normal) ⟨.int kd (max p q), .none, []⟩) ?_ h
  rintro τ ⟨kd, p, q, h1, h2, h3⟩ X ι a w s
  exact ⟨_, max_ok s ho hc ha h1 h2, h3⟩
end
end Dv
namespace Dv
open Go
section
variable {P : Program} {T : Zba} {n : Nat} {L : List Id}
end
end Dv
namespace Dv
open Go
section
variable {P : Program} {T : Zba} {n : Nat} {L : List Id} {X : Nat → Prop} {all : List Oper}
end
end Dv
namespace Dv
open Go
section
variable {P : Program} {T : Zba} {n : Nat} {L : List Id} {X : Nat → Prop} {all : List Oper} {E : Nat → Eff} {dep : Nat → Nat → Bool} {σ0 : ASt} {rdX : Nat → List Id}
structure RegX (P : Program) (T : Zba) (all : List Oper) (E : Nat → Eff) (dep : Nat → Nat → Bool) (σ0 : ASt) (rdX : Nat → List Id) : Prop where
  ev : ∀ k o, all[k]? = some o → evOp P T all (stp all E σ0 topP k) o (fun e => e = E k) ∧ upOk all (stp all E σ0 topP k) o (E k).up = true
  edge : ∀ (k : Nat) (o : Oper), all[k]? = some o → ∀ e ∈ o.after, Region.binds .any e = true → e.on < k
  deps : ∀ (k : Nat) (o : Oper) (i : Nat), all[k]? = some o → dep i k = true → ∃ e ∈ o.after, Region.binds .any e = true ∧ (i = e.on ∨ dep i e.on = true)
  gd : ∀ (k : Nat) (o : Oper) (j : Nat) (b : Bool), all[k]? = some o → o.guard = some (j, b) → dep j k = true
  ap : ∀ i k oi ok, i < k → all[i]? = some oi → all[k]? = some ok → dep i k = false → Apart all (stp all E σ0 topP i) (stp all E σ0 topP k) oi ok ⟨(E i).val, (E i).up, rdX i⟩ ⟨(E k).val, (E k).up, rdX k⟩
  start : ∀ t j b v, σ0.tm t ≠ .guard j b v
  loc : ∀ (i : Nat) (o : Oper) (p : Nat → Bool), all[i]? = some o → Cl all dep p → p i = false → (∀ j, dep j i = true → p j = true) → Ag all (stp all E σ0 topP i) (stp all E σ0 p all.length) o ⟨(E i).val, (E i).up, rdX i⟩ → ∀ K' : Eff → Prop, K' (E i) → evOp P T all (stp all E σ0 p all.length) o K'
theorem RegX.dep_lt (R : RegX P T all E dep σ0 rdX) : ∀ (k i : Nat), k < all.length → dep i k = true → i < k := by
  intro k
  induction k using Nat.strongRecOn with
  | ind k ih =>
    intro i hk hd
    have ho : all[k]? = some all[k] := by simp [hk]
    obtain ⟨e, he, hb, h⟩ := R.deps k _ i ho hd
    have hlt := R.edge k _ ho e he hb
    rcases h with h | h
    · omega
    · have := ih e.on hlt i (by omega) h
      omega
theorem RegX.noG (R : RegX P T all E dep σ0 rdX) {p : Nat → Bool} (hp : Cl all dep p) : ∀ (m t j : Nat) (b : Bool) (v : AV), (stp all E σ0 p m).tm t = .guard j b v → p j = true ∧ j < m
  | 0, t, j, b, v, h => (R.start t j b v h).elim
  | m + 1, t, j, b, v, h => by
      simp only [stp] at h
      cases hpm : p m with
      | false => rw [hpm] at h; have := R.noG hp m t j b v h; exact ⟨this.1, by omega⟩
      | true =>
        rw [hpm] at h
        simp only [cond_true, step] at h
        split at h
        · rename_i o ho
          have hm : m < all.length := by
            rcases Nat.lt_or_ge m all.length with h' | h'
            · exact h'
            · simp [List.getElem?_eq_none h'] at ho
          rw [put_tm] at h
          split at h
          · have := gval_guard h
            have hd := R.gd m o j b ho this
            exact ⟨hp j m hm hpm hd, by have := R.dep_lt m j hm hd; omega⟩
          · have := R.noG hp m t j b v (upS_tm_guard h); exact ⟨this.1, by omega⟩
        · have := R.noG hp m t j b v h; exact ⟨this.1, by omega⟩
theorem RegX.next (R : RegX P T all E dep σ0 rdX) {p : Nat → Bool} (hp : Cl all dep p) {i : Nat} {o : Oper} (ho : all[i]? = some o) (hi : p i = false) (hd : ∀ j, dep j i = true → p j = true) :
    Next1 P T all i o (stp all E σ0 p all.length) fun τ => τ = stp all E σ0 (plus p i) all.length := by
  have hlt : i < all.length := by
    rcases Nat.lt_or_ge i all.length with h' | h'
    · exact h'
    · simp [List.getElem?_eq_none h'] at ho
  have low : stp all E σ0 topP i = stp all E σ0 (fun k => Nat.blt k i) all.length := by
    have h1 : stp all E σ0 topP i = stp all E σ0 (fun k => Nat.blt k i) i := Zdy i (fun k hk => by simpa [topP] using hk)
    have hm : all.length = i + (all.length - i) := by omega
    have hf : ∀ k, i ≤ k → k < i + (all.length - i) → (fun k => Nat.blt k i) k = false := fun k hk _ => by
      simp only
      cases e : Nat.blt k i with
      | false => rfl
      | true => rw [Nat.blt_eq] at e; omega
    rw [h1]
    generalize (fun k => Nat.blt k i) = q at *
    rw [hm]
    have h2 : ∀ d, (∀ k, i ≤ k → k < i + d → q k = false) → stp all E σ0 q i = stp all E σ0 q (i + d) := by
      intro d
      induction d with
      | zero => intro _; rfl
      | succ d ih =>
        intro h
        rw [← Nat.add_assoc]
        simp only [stp, h (i + d) (by omega) (by omega), cond_false]
        exact ih (fun k a b => h k a (by omega))
    exact h2 _ hf
  have diff : ∀ k ok, all[k]? = some ok → p k ≠ Nat.blt k i → Zd9 (E k).up = false ∧ (∀ d, ok.dst = some d → d ∉ Zcb o.op ∧ d ∉ Zfd all (stp all E σ0 topP i) o.guard) ∧
      (∀ x ∈ wIds (Zat ok) (E k).up, x ∉ wIds (Zat o) (E i).up ∧ x ∉ rdX i) := by
    intro k ok hok hne
    rcases Nat.lt_trichotomy k i with h | h | h
    · have hb : Nat.blt k i = true := by rw [Nat.blt_eq]; exact h
      have hpk : p k = false := by cases e : p k with
        | false => rfl
        | true => rw [e, hb] at hne; exact (hne rfl).elim
      have hdk : dep k i = false := by cases e : dep k i with
        | false => rfl
        | true => rw [hd k e] at hpk; cases hpk
      have ap := R.ap k i ok o h hok ho hdk
      exact ⟨ap.m1, fun d e => ⟨(ap.d1 d e).1, (ap.d1 d e).2.1⟩, ap.h1⟩
    · subst h
      have hb : Nat.blt k k = false := by cases e : Nat.blt k k with
        | false => rfl
        | true => rw [Nat.blt_eq] at e; omega
      rw [hi, hb] at hne; exact (hne rfl).elim
    · have hb : Nat.blt k i = false := by cases e : Nat.blt k i with
        | false => rfl
        | true => rw [Nat.blt_eq] at e; omega
      have hpk : p k = true := by cases e : p k with
        | true => rfl
        | false => rw [e, hb] at hne; exact (hne rfl).elim
      have hk : k < all.length := by
        rcases Nat.lt_or_ge k all.length with h' | h'
        · exact h'
        · simp [List.getElem?_eq_none h'] at hok
      have hdk : dep i k = false := by cases e : dep i k with
        | false => rfl
        | true => rw [hp i k hk hpk e] at hi; cases hi
      have ap := R.ap i k o ok h ho hok hdk
      refine ⟨ap.m2, ap.d2, fun x hx => ⟨fun hx' => (ap.h1 x hx').1 hx, ap.h2 x hx⟩⟩
  have sameT : ∀ t, (t ∈ Zcb o.op ∨ t ∈ Zfd all (stp all E σ0 topP i) o.guard) → (stp all E σ0 p all.length).tm t = (stp all E σ0 topP i).tm t := by
    intro t ht
    rw [low]
    refine stp_tm _ (fun k _ => ?_)
    by_cases hne : p k = Nat.blt k i
    · exact .inl hne
    · refine .inr fun ok hok => ?_
      obtain ⟨h1, h2, _⟩ := diff k ok hok hne
      rintro (h | h)
      · rw [h1] at h; cases h
      · rcases ht with ht | ht
        · exact (h2 t h).1 ht
        · exact (h2 t h).2 ht
  have sameH : ∀ j, (j ∈ wIds (Zat o) (E i).up ∨ j ∈ rdX i) → (stp all E σ0 p all.length).h j = (stp all E σ0 topP i).h j := by
    intro t ht
    rw [low]
    refine stp_h _ (fun k _ => ?_)
    by_cases hne : p k = Nat.blt k i
    · exact .inl hne
    · refine .inr fun ok hok => ?_
      obtain ⟨h1, _, h2⟩ := diff k ok hok hne
      rintro (h | h)
      · rw [h1] at h; cases h
      · rcases ht with ht | ht
        · exact (h2 t h).1 ht
        · exact (h2 t h).2 ht
  have bar : Zd9 (E i).up = true → stp all E σ0 p all.length = stp all E σ0 topP i := by
    intro hm
    rw [low]
    refine Zdy _ (fun k hk => ?_)
    have hok : all[k]? = some all[k] := by simp [hk]
    rcases Nat.lt_trichotomy k i with h | h | h
    · have hb : Nat.blt k i = true := by rw [Nat.blt_eq]; exact h
      rw [hb]
      cases e : dep k i with
      | true => exact hd k e
      | false => have := (R.ap k i _ o h hok ho e).m2; rw [hm] at this; cases this
    · subst h
      rw [hi]
      cases e : Nat.blt k k with
      | false => rfl
      | true => rw [Nat.blt_eq] at e; omega
    · cases e : Nat.blt k i with
      | true => rw [Nat.blt_eq] at e; omega
      | false =>
        cases e' : p k with
        | false => rfl
        | true =>
          cases e2 : dep i k with
          | true => rw [hp i k hk e' e2] at hi; cases hi
          | false => have := (R.ap i k o _ h ho hok e2).m1; rw [hm] at this; cases this
  have hev := R.ev i o ho
  have hloc := R.loc i o p ho hp hi hd
  have hfr : Zff (E i).up = true → (stp all E σ0 p all.length).h (Zat o) = (stp all E σ0 topP i).h (Zat o) := by
    intro ha
    cases hu : (E i).up with
    | move _ _ => rw [bar (by rw [hu]; rfl)]
    | alloc _ => exact sameH _ (.inl (by rw [hu]; simp [wIds]))
    | box _ => exact sameH _ (.inl (by rw [hu]; simp [wIds]))
    | bld _ _ _ => exact sameH _ (.inl (by rw [hu]; simp [wIds]))
    | _ => rw [hu] at ha; cases ha
  refine hloc ⟨fun t ht => sameT t (.inl ht), fun t ht => sameT t (.inr ht), fun j hj => sameH j (.inr hj), hfr, bar⟩ _ ?_
  refine ⟨upOk_local hfr (fun j hj => sameH j (.inl hj)) hev.2, ?_⟩
  rw [appS_step ho (fun t b v e => by have := (R.noG hp _ t i b v e).1; rw [hi] at this; cases this)]
  have pair : ∀ k, i < k → k < all.length → p k = true → ∀ oi ok, all[i]? = some oi → all[k]? = some ok → Apart all (stp all E σ0 topP i) (stp all E σ0 topP k) oi ok ⟨(E i).val, (E i).up, rdX i⟩ ⟨(E k).val, (E k).up, rdX k⟩ := by
    intro k h1 h2 h3 oi ok h4 h5
    refine R.ap i k oi ok h1 h4 h5 ?_
    cases e : dep i k with
    | false => rfl
    | true => rw [hp i k h2 h3 e] at hi; cases hi
  refine stp_plus hlt hi (fun k t h1 h2 h3 oi ok h4 h5 => ?_) (fun k j h1 h2 h3 oi ok h4 h5 => ?_)
  · have ap := pair k h1 h2 h3 oi ok h4 h5
    by_cases h : touchT oi (E i).up t
    · right
      rintro (h' | h')
      · rw [ap.m2] at h'; cases h'
      · rcases h with h | h
        · rw [ap.m1] at h; cases h
        · exact (ap.d1 t h).2.2 h'
    · exact .inl h
  · have ap := pair k h1 h2 h3 oi ok h4 h5
    by_cases h : touchH oi (E i).up j
    · right
      rintro (h' | h')
      · rw [ap.m2] at h'; cases h'
      · rcases h with h | h
        · rw [ap.m1] at h; cases h
        · exact (ap.h1 j h).1 h'
    · exact .inl h
set_option linter.unnecessarySimpa false in
theorem RegX.sound (hT : TOk P T) (hr : RegOk n all) (R : RegX P T all E dep σ0 rdX) {Q : Exit → Act → World → Prop} {ι0 : Zah} {w0 : World}
    (hQ : ∀ ι' a' w', StG all.toArray n X (stp all E σ0 topP all.length) ι' a' w' → Zbo L X ι0 ι' w0 w' → Q .normal a' w') :
    ∀ (fuel : Nat) (listed : Array Bool) (ι : Zah) (a : Act) (w : World), listed.size = all.length → Cl all dep (fun k => listed.getD k false) → left (fun k => listed.getD k false) all.length ≤ fuel →
      StG all.toArray n X (stp all E σ0 (fun k => listed.getD k false) all.length) ι a w → Zbo L X ι0 ι w0 w → wpAny P .any all.toArray Q fuel listed a w := by
  have done : ∀ (listed : Array Bool) (ι : Zah) (a : Act) (w : World), listed.size = all.length → StG all.toArray n X (stp all E σ0 (fun k => listed.getD k false) all.length) ι a w → Zbo L X ι0 ι w0 w →
      Region.ready .any all.toArray listed = [] → Q .normal a w := by
    intro listed ι a w hsz s hg hrd
    have all1 : ∀ k, k < all.length → listed.getD k false = true := by
      intro k
      induction k using Nat.strongRecOn with
      | ind k ih =>
        intro hk
        cases e : listed.getD k false with
        | true => rfl
        | false =>
          have ho : all[k]? = some all[k] := by simp [hk]
          have : k ∈ Region.ready .any all.toArray listed := by
            rw [mem_ready]
            refine ⟨?_, all[k], by simpa using ho, fun e' he' hb => ?_⟩
            · have hk' : k < listed.size := by omega
              simp [hk'] at e ⊢; exact e
            · have hlt := R.edge k _ ho e' he' hb
              exact ih e'.on hlt (by omega)
          rw [hrd] at this; cases this
    refine hQ ι a w ?_ hg
    rw [Zdy (q := topP) all.length (fun k hk => all1 k hk)] at s
    exact s
  intro fuel
  induction fuel with
  | zero =>
    intro listed ι a w hsz hcl hl s hg
    have h0 := left_zero all.length (by omega : left (fun k => listed.getD k false) all.length = 0)
    have hrd : Region.ready .any all.toArray listed = [] := by
      apply List.eq_nil_iff_forall_not_mem.2
      intro j hj
      obtain ⟨h1, o, ho, _⟩ := mem_ready.1 hj
      have hj' : j < all.length := by
        have := (Array.getElem?_eq_some_iff.1 ho).1
        simpa using this
      have := h0 j hj'
      have hk' : j < listed.size := by omega
      simp [hk'] at h1 this
      rw [h1] at this; cases this
    exact ⟨hrd, done listed ι a w hsz s hg hrd⟩
  | succ fuel ih =>
    intro listed ι a w hsz hcl hl s hg
    refine ⟨done listed ι a w hsz s hg, fun i hi => ?_⟩
    obtain ⟨h1, o, ho, hedge⟩ := mem_ready.1 hi
    have ho' : all[i]? = some o := by simpa using ho
    have hi' : i < all.length := by
      have := (Array.getElem?_eq_some_iff.1 ho).1
      simpa using this
    have hil : i < listed.size := by omega
    have hpi : listed.getD i false = false := by simp [hil] at h1 ⊢; exact h1
    have hdi : ∀ j, dep j i = true → listed.getD j false = true := by
      intro j hj
      obtain ⟨e, he, hb, h⟩ := R.deps i o j ho' hj
      have hon := hedge e he hb
      rcases h with h | h
      · subst h; exact hon
      · have hlt := R.edge i o ho' e he hb
        exact hcl j e.on (by omega) hon h
    have hplus : (fun k => (listed.setIfInBounds i true).getD k false) = plus (fun k => listed.getD k false) i := by
      funext k
      by_cases e : k = i
      · subst e; rw [Ze5]; simp [hil]
      · rw [Zdp _ e]; exact getD_set_ne false (Ne.symm e)
    refine Zdq (L := L) hT hr s ho' (R.next hcl ho' hpi hdi) (fun τ ι' a' w' hτ hs hg' => ?_)
    subst hτ
    refine ih _ ι' a' w' (by simp [hsz]) ?_ ?_ (by rw [hplus]; exact hs) (hg.trans hg')
    · rw [hplus]
      intro j k hk hpk hdj
      by_cases e : j = i
      · subst e; exact Ze5 _ _
      · rw [Zdp _ e]
        by_cases e' : k = i
        · subst e'; exact hdi j hdj
        · rw [Zdp _ e'] at hpk; exact hcl j k hk hpk hdj
    · rw [hplus]
      have := left_plus (p := fun k => listed.getD k false) hpi all.length hi'
      omega
def noneUp : Up → Bool
  | .none => true
  | _ => false
def only (b0 : Id) : List Id → Bool
  | [i] => idEq i b0
  | _ => false
def c1B (i0 k0 : Nat) (b0 : Id) (m0 : Nat) : Nat → List FP → Bool
  | _, [] => true
  | k, f :: r => (noI [b0] f.wr || Nat.beq k k0 || (bif Nat.blt k i0 then tb m0 k else tb f.mask i0)) && c1B i0 k0 b0 m0 (k + 1) r
end
end Dv
namespace Dv
open Go
section
variable {P : Program} {T : Zba} {n : Nat} {L : List Id} {X : Nat → Prop} {all : List Oper}
theorem evOp_look {o : Oper} {K : Eff → Prop} {σ σ' : ASt} (hg : o.guard = none) (ht : ∀ t ∈ Zcb o.op, σ'.tm t = σ.tm t) (hh : σ'.h = σ.h) (h : evOp P T all σ o K) : evOp P T all σ' o K := by
  have two : ∀ {a b : List Nat}, (∀ t ∈ app2 a b, σ'.tm t = σ.tm t) → (∀ t ∈ a, σ'.tm t = σ.tm t) ∧ (∀ t ∈ b, σ'.tm t = σ.tm t) := fun h => ⟨fun t ht => h t (Zdi.2 (.inl ht)), fun t ht => h t (Zdi.2 (.inr ht))⟩
  have hun : ∀ τ p, under all τ o p = p := fun τ p => by unfold under; rw [hg]
  have plain : Zco T all σ o K → Zco T all σ' o K := by
    intro hp
    unfold Zco at hp ⊢
    split at hp
    · rename_i obl v u rd he
      have : Zdl T (σ'.viewS (gsOf o)) (Zat o) o.op = some ⟨obl, v, u, rd⟩ := evSimple_local (Zb2 ht) (fun i _ => congrFun hh i) (fun _ => congrFun hh _) he
      rw [this]
      split at hp
      · exact hp
      · rw [hun] at hp; simp only [hun]; exact hp
    · exact hp.elim
  unfold evOp at h
  split at h
  · rename_i c x y hop
    rw [hop] at ht
    simp only [Zcb] at ht
    have h2 := two ht
    have h3 := two h2.2
    have a1 : ∀ gs, (σ'.viewS gs).opv c = (σ.viewS gs).opv c := fun gs => Zbb (Zb2 h2.1)
    have a2 : ∀ gs, (σ'.viewS gs).opv x = (σ.viewS gs).opv x := fun gs => Zbb (Zb2 h3.1)
    have a3 : ∀ gs, (σ'.viewS gs).opv y = (σ.viewS gs).opv y := fun gs => Zbb (Zb2 h3.2)
    unfold evOp
    simp only [hop]
    unfold evPick at h ⊢
    simp only [a1, a2, a3]
    exact h
  · rename_i c hop
    split at h
    · rename_i f hc
      obtain ⟨cal, args, ts⟩ := c
      simp only at hc; subst hc
      rw [hop] at ht
      simp only [Zcb] at ht
      have ht2 := two ht
      unfold evOp
      simp only [hop]
      unfold evCall at h ⊢
      rw [Zbb (Zb2 ht2.1), Zd1 (Zb2 ht2.2)]
      simp only [hun] at h ⊢
      rw [hh]
      exact h
    · rename_i hc
      obtain ⟨cal, args, ts⟩ := c
      cases cal with
      | value f => exact (hc f rfl).elim
      | builtin b => unfold evOp; simp only [hop]; exact plain h
      | invoke i m => unfold evOp; simp only [hop]; exact plain h
  · rename_i h1 h2
    unfold evOp
    cases hop : o.op <;> simp only <;> first | exact plain h | exact (h1 _ _ _ hop).elim | exact (h2 _ hop).elim
def edgesIn (done : Nat) : List Edge → Bool
  | [] => true
  | e :: r => (bif Region.binds .any e then tb done e.on else true) && edgesIn done r
theorem edgesIn_of {done : Nat} : ∀ {es : List Edge}, (∀ e ∈ es, Region.binds .any e = true → tb done e.on = true) → edgesIn done es = true
  | [], _ => rfl
  | e :: r, h => by
      simp only [edgesIn, Bool.and_eq_true]
      refine ⟨?_, edgesIn_of fun e' he' => h e' (List.mem_cons_of_mem _ he')⟩
      cases hb : Region.binds .any e with
      | false => rfl
      | true => exact h e (List.mem_cons_self ..) hb
def readyN (done : Nat) : Nat → List Oper → List Nat
  | _, [] => []
  | k, o :: r => bif tb done k then readyN done (k + 1) r else bif edgesIn done o.after.toList then k :: readyN done (k + 1) r else readyN done (k + 1) r
theorem mem_readyN {done : Nat} : ∀ {l : List Oper} {s k : Nat} {o : Oper}, l[k]? = some o → tb done (s + k) = false → edgesIn done o.after.toList = true → s + k ∈ readyN done s l
  | [], s, k, o, h, _, _ => by simp at h
  | x :: r, s, 0, o, h, h1, h2 => by
      simp at h; subst h
      rw [Nat.add_zero] at h1 ⊢
      simp only [readyN]
      rw [h1, h2]
      exact List.mem_cons_self ..
  | x :: r, s, k + 1, o, h, h1, h2 => by
      have := mem_readyN (done := done) (l := r) (s := s + 1) (k := k) (by simpa using h) (by rw [← h1]; congr 1; omega) h2
      rw [show s + (k + 1) = s + 1 + k by omega]
      simp only [readyN]
      cases tb done s <;> simp only [cond_true, cond_false]
      · cases edgesIn done x.after.toList <;> simp only [cond_true, cond_false]
        · exact this
        · exact List.mem_cons_of_mem _ this
      · exact this
theorem readyN_nil {done : Nat} : ∀ {l : List Oper} {s : Nat}, (∀ k, k < l.length → tb done (s + k) = true) → readyN done s l = []
  | [], _, _ => rfl
  | x :: r, s, h => by
      simp only [readyN]
      have h0 := h 0 (by simp)
      rw [Nat.add_zero] at h0
      rw [h0, cond_true]
      exact readyN_nil fun k hk => by rw [← h (k + 1) (by simpa using hk)]; congr 1; omega
def getO : List Oper → Nat → Option Oper
  | [], _ => none
  | o :: _, 0 => some o
  | _ :: r, k + 1 => getO r k
theorem getO_eq : ∀ {l : List Oper} {k : Nat}, getO l k = l[k]?
  | [], k => by simp [getO]
  | o :: r, 0 => by simp [getO]
  | o :: r, k + 1 => by simp only [getO, List.getElem?_cons_succ]; exact getO_eq
def onE (i : Nat) : List Edge → Bool
  | [] => false
  | e :: r => (Region.binds .any e && Nat.beq e.on i) || onE i r
theorem onE_spec {i : Nat} : ∀ {es : List Edge}, onE i es = true → ∃ e ∈ es, Region.binds .any e = true ∧ e.on = i
  | [], h => by cases h
  | e :: r, h => by
      simp only [onE, Bool.or_eq_true, Bool.and_eq_true] at h
      rcases h with ⟨h1, h2⟩ | h
      · exact ⟨e, List.mem_cons_self .., h1, Nat.eq_of_beq_eq_true h2⟩
      · obtain ⟨e', h1, h2⟩ := onE_spec h
        exact ⟨e', List.mem_cons_of_mem _ h1, h2⟩
def reS (P : Program) (T : Zba) (all : List Oper) (after : List Edge) (tm : Nat → AV) (h : Zao) (K : Prop) : List Nat → Prop
  | [] => K
  | i :: r => match onE i after with
    | true => reS P T all after tm h K r
    | false => match getO all i with
      | some ⟨some d, op, _, _, _, g⟩ => gOp P T all tm h (some d) g op (fun v u _ => gval none v = tm d ∧ u = .none) ∧ reS P T all after tm h K r
      | _ => False
theorem reS_spec {after : List Edge} {tm : Nat → AV} {h : Zao} {K : Prop} : ∀ {S : List Nat}, reS P T all after tm h K S → K ∧ ∀ i ∈ S, onE i after = false → ∀ o d, all[i]? = some o → o.dst = some d → evOp P T all ⟨tm, h⟩ o fun e => gval none e.val = tm d ∧ e.up = .none
  | [], hh => ⟨hh, fun i hi => by cases hi⟩
  | i :: r, hh => by
      simp only [reS] at hh
      cases ho : onE i after with
      | true =>
        rw [ho] at hh
        obtain ⟨h1, h2⟩ := reS_spec hh
        refine ⟨h1, fun j hj hn => ?_⟩
        rcases List.mem_cons.1 hj with e | e
        · subst e; rw [ho] at hn; cases hn
        · exact h2 j e hn
      | false =>
        rw [ho] at hh
        simp only at hh
        split at hh
        · rename_i d op ty pos after' g hg
          obtain ⟨h1, h2⟩ := hh
          obtain ⟨h3, h4⟩ := reS_spec h2
          refine ⟨h3, fun j hj hn o d' ho' hd' => ?_⟩
          rcases List.mem_cons.1 hj with e | e
          · subst e
            rw [getO_eq, ho'] at hg
            cases hg
            cases hd'
            exact gOp_evOp (o := ⟨some d, op, ty, pos, after', g⟩) h1
          · exact h4 j e hn o d' ho' hd'
        · exact hh.elim
def allR : List Nat → (Nat → Prop) → Prop
  | [], _ => True
  | [j], p => p j
  | j :: r, p => p j ∧ allR r p
theorem allR_mem {p : Nat → Prop} : ∀ {l : List Nat} {j : Nat}, allR l p → j ∈ l → p j
  | [], j, _, h => by cases h
  | [x], j, hh, h => by rw [List.mem_singleton] at h; subst h; exact hh
  | x :: y :: r, j, hh, h => by
      simp only [allR] at hh
      rcases List.mem_cons.1 h with e | e
      · subst e; exact hh.1
      · exact allR_mem hh.2 e
def GH (P : Program) (T : Zba) (all : List Oper) (S : List Nat) : Nat → Nat → (Nat → AV) → Zao → (ASt → Prop) → Prop
  | 0, _, _, _, _ => False
  | f + 1, done, tm, h, K => match readyN done 0 all with
    | [] => K ⟨tm, h⟩
    | x :: r => allR (x :: r) fun j => match getO all j with
      | some ⟨d, op, _, _, after, g⟩ => gOp P T all tm h d g op fun v0 u0 _ => Zc0 v0 fun v => fForceUp u0 fun u => orFalse (fUpOk [] h d g u)
          (fUp d u tm h fun tm1 h1 => fPut d g v tm1 fun tm3 => reS P T all after.toList tm3 h1 (forceN (Nat.lor done (Nat.pow 2 j)) fun done' => GH P T all S f done' tm3 h1 K) S)
      | none => False
def GS (P : Program) (T : Zba) (all : List Oper) (S : List Nat) (F : Nat) : List Nat → Nat → (Nat → AV) → Zao → (ASt → Prop) → Prop
  | [], done, tm, h, K => GH P T all S F done tm h K
  | i :: r, done, tm, h, K => match getO all i with
    | some ⟨some d, op, _, _, _, g⟩ => gOp P T all tm h (some d) g op fun v0 u0 _ => Zc0 v0 fun v => orFalse (noneUp u0) (fPut (some d) g v tm fun tm1 => forceN (Nat.lor done (Nat.pow 2 i)) fun done' => GS P T all S F r done' tm1 h K)
    | _ => False
def Zfv? (all : List Oper) (i : Nat) : Option Nat := match getO all i with
  | some o => o.dst
  | none => none
def statI (i d : Nat) : Nat → List Oper → Bool
  | _, [] => true
  | k, o :: r => (dNotIn (some d) (Zcb o.op) || onE i o.after.toList) && (Nat.beq k i || dNe (some d) o.dst) && statI i d (k + 1) r
theorem statI_spec {i d : Nat} : ∀ {l : List Oper} {s k : Nat} {o : Oper}, statI i d s l = true → l[k]? = some o → (d ∈ Zcb o.op → onE i o.after.toList = true) ∧ (s + k ≠ i → o.dst ≠ some d)
  | [], s, k, o, _, h => by simp at h
  | x :: r, s, 0, o, h, hk => by
      simp at hk; subst hk
      simp only [statI, Bool.and_eq_true, Bool.or_eq_true] at h
      rw [Nat.add_zero]
      refine ⟨fun hm => ?_, fun hne => ?_⟩
      · rcases h.1.1 with h1 | h1
        · exact absurd hm (Zfw h1 d rfl)
        · exact h1
      · rcases h.1.2 with h1 | h1
        · exact absurd (Nat.eq_of_beq_eq_true h1) hne
        · exact dNe_spec h1 d rfl
  | x :: r, s, k + 1, o, h, hk => by
      simp only [statI, Bool.and_eq_true] at h
      have := statI_spec h.2 (k := k) (by simpa using hk)
      rw [show s + (k + 1) = s + 1 + k by omega]
      exact this
def laterB (all : List Oper) (lk : List Nat) : List Nat → Bool
  | [] => true
  | i :: r => dNotIn (Zfv? all i) lk && laterB all lk r
def statS (all : List Oper) : List Nat → Bool
  | [] => true
  | i :: r => (match getO all i with
    | some o => (match o.dst with | some d => statI i d 0 all && laterB all (Zcb o.op) r && noI [(i, 0, 0)] (r.map fun j => (j, 0, 0)) | none => false)
    | none => false) && statS all r
def edgesA : Nat → List Oper → Bool
  | _, [] => true
  | k, o :: r => edgesOk k o.after.toList && edgesA (k + 1) r
theorem edgesA_spec : ∀ {l : List Oper} {s k : Nat} {o : Oper}, edgesA s l = true → l[k]? = some o → ∀ e ∈ o.after.toList, Region.binds .any e = true → e.on < s + k
  | [], s, k, o, _, h => by simp at h
  | x :: r, s, 0, o, h, hk => by
      simp at hk; subst hk
      simp only [edgesA, Bool.and_eq_true] at h
      exact edgesOk_spec h.1
  | x :: r, s, k + 1, o, h, hk => by
      simp only [edgesA, Bool.and_eq_true] at h
      rw [show s + (k + 1) = s + 1 + k by omega]
      exact edgesA_spec h.2 (by simpa using hk)
structure Stat (all : List Oper) (S : List Nat) : Prop where
  gs : Zaq all = []
  edge : ∀ (k : Nat) (o : Oper), all[k]? = some o → ∀ e ∈ o.after, Region.binds .any e = true → e.on < k
  dst : ∀ i ∈ S, ∃ o d, all[i]? = some o ∧ o.dst = some d ∧ ∀ (k : Nat) (x : Oper), all[k]? = some x → (d ∈ Zcb x.op → onE i x.after.toList = true) ∧ (k ≠ i → x.dst ≠ some d)
theorem Zfu : ∀ {l : List Oper} {k : Nat} {o : Oper}, Zaq l = [] → l[k]? = some o → o.guard = none := by
  intro l k o h hk
  cases hg : o.guard with
  | none => rfl
  | some g =>
    obtain ⟨j, b⟩ := g
    have := Zd2 hk hg
    rw [h] at this; cases this
structure Inv (P : Program) (T : Zba) (all : List Oper) (S : List Nat) (listed : Array Bool) (done : Nat) (τ σ : ASt) : Prop where
  sz : listed.size = all.length
  dn : ∀ k, k < all.length → (tb done k = true ↔ listed.getD k false = true ∨ k ∈ S)
  hh : τ.h = σ.h
  tm : ∀ t, (∀ i ∈ S, listed.getD i false = false → ∀ o, all[i]? = some o → o.dst ≠ some t) → τ.tm t = σ.tm t
  re : ∀ i ∈ S, listed.getD i false = false → ∀ o d, all[i]? = some o → o.dst = some d → evOp P T all σ o fun e => gval none e.val = σ.tm d ∧ e.up = .none
theorem appS_plain {k : Nat} {o : Oper} {v : AV} {u : Up} {σ : ASt} (h : Zaq all = []) (hg : o.guard = none) : appS all k o v u σ = (upS (Zat o) u σ).put o.dst (gval none v) := by
  unfold appS; rw [h, hg]; rfl
theorem upS_tm_of (f : Id) (u : Up) {σ σ' : ASt} {t : Nat} (h : σ.tm t = σ'.tm t) : (upS f u σ).tm t = (upS f u σ').tm t := by
  cases u <;> simp only [upS] <;> first | exact h | rw [h]
theorem upS_h_of (f : Id) (u : Up) {σ σ' : ASt} (h : σ.h = σ'.h) : (upS f u σ).h = (upS f u σ').h := by
  cases u <;> simp only [upS] <;> first | exact h | rw [h]
theorem tb_or (n m k : Nat) : tb (Nat.lor n (Nat.pow 2 m)) k = (tb n k || Nat.beq m k) := by
  rw [tb_eq, tb_eq]
  have : (n ||| 2 ^ m).testBit k = (n.testBit k || Nat.beq m k) := by
    rw [Nat.testBit_or, Nat.testBit_two_pow]
    congr 1
    cases h : Nat.beq m k with
    | true => exact decide_eq_true (Nat.eq_of_beq_eq_true h)
    | false => exact decide_eq_false fun e => by subst e; simp at h
  exact this
set_option linter.unnecessarySimpa false in
theorem soft_sound (hT : TOk P T) (hr : RegOk n all) {S : List Nat} (hS : Stat all S) {K : ASt → Prop} {Q : Exit → Act → World → Prop} {ι0 : Zah} {w0 : World}
    (hQ : ∀ σ ι' a' w', K σ → StG all.toArray n X σ ι' a' w' → Zbo L X ι0 ι' w0 w' → Q .normal a' w') :
    ∀ (fuel F : Nat) (listed : Array Bool) (done : Nat) (τ σ : ASt) (ι : Zah) (a : Act) (w : World), Inv P T all S listed done τ σ → left (fun k => listed.getD k false) all.length ≤ fuel →
      GH P T all S F done σ.tm σ.h K → StG all.toArray n X τ ι a w → Zbo L X ι0 ι w0 w → wpAny P .any all.toArray Q fuel listed a w := by
  have fin : ∀ (F : Nat) (listed : Array Bool) (done : Nat) (τ σ : ASt) (ι : Zah) (a : Act) (w : World), Inv P T all S listed done τ σ →
      GH P T all S F done σ.tm σ.h K → StG all.toArray n X τ ι a w → Zbo L X ι0 ι w0 w → Region.ready .any all.toArray listed = [] → Q .normal a w := by
    intro F listed done τ σ ι a w I hg s hgo hrd
    have all1 : ∀ k, k < all.length → listed.getD k false = true := by
      intro k
      induction k using Nat.strongRecOn with
      | ind k ih =>
        intro hk
        cases e : listed.getD k false with
        | true => rfl
        | false =>
          have ho : all[k]? = some all[k] := by simp [hk]
          have : k ∈ Region.ready .any all.toArray listed := by
            rw [mem_ready]
            refine ⟨?_, all[k], by simpa using ho, fun e' he' hb => ?_⟩
            · have hk' : k < listed.size := by rw [I.sz]; exact hk
              simp [hk'] at e ⊢; exact e
            · have hlt := hS.edge k _ ho e' he' hb
              exact ih e'.on hlt (by omega)
          rw [hrd] at this; cases this
    have hts : τ = σ := by
      have h1 : ∀ t, τ.tm t = σ.tm t := fun t => I.tm t fun i hi hl o ho => by
        have hlt : i < all.length := by
          rcases Nat.lt_or_ge i all.length with h' | h'
          · exact h'
          · simp [List.getElem?_eq_none h'] at ho
        rw [all1 i hlt] at hl; cases hl
      have h2 := I.hh
      obtain ⟨t1, g1⟩ := τ; obtain ⟨t2, g2⟩ := σ
      simp only at h1 h2
      rw [funext h1, h2]
    subst hts
    cases F with
    | zero => exact hg.elim
    | succ F =>
      simp only [GH] at hg
      rw [readyN_nil (fun k hk => by rw [Nat.zero_add]; exact (I.dn k hk).2 (.inl (all1 k hk)))] at hg
      exact hQ _ ι a w hg s hgo
  intro fuel
  induction fuel with
  | zero =>
    intro F listed done τ σ ι a w I hl hg s hgo
    have h0 := left_zero all.length (by omega : left (fun k => listed.getD k false) all.length = 0)
    have hrd : Region.ready .any all.toArray listed = [] := by
      apply List.eq_nil_iff_forall_not_mem.2
      intro j hj
      obtain ⟨h1, o, ho, _⟩ := mem_ready.1 hj
      have hj' : j < all.length := by
        have := (Array.getElem?_eq_some_iff.1 ho).1
        simpa using this
      have := h0 j hj'
      have hk' : j < listed.size := by rw [I.sz]; exact hj'
      simp [hk'] at h1 this
      rw [h1] at this; cases this
    exact ⟨hrd, fin F listed done τ σ ι a w I hg s hgo hrd⟩
  | succ fuel ih =>
    intro F listed done τ σ ι a w I hl hg s hgo
    refine ⟨fin F listed done τ σ ι a w I hg s hgo, fun i hi => ?_⟩
    obtain ⟨h1, o, ho, hedge⟩ := mem_ready.1 hi
    have ho' : all[i]? = some o := by simpa using ho
    have hi' : i < all.length := by
      have := (Array.getElem?_eq_some_iff.1 ho).1
      simpa using this
    have hil : i < listed.size := by rw [I.sz]; exact hi'
    have hpi : listed.getD i false = false := by simp [hil] at h1 ⊢; exact h1
    have hgd := Zfu hS.gs ho'
    have hset : ∀ k, (listed.setIfInBounds i true).getD k false = (bif Nat.beq i k then true else listed.getD k false) := by
      intro k
      by_cases e : k = i
      · subst e; simp [hil]
      · rw [getD_set_ne false (Ne.symm e)]
        have : Nat.beq i k = false := by rw [Bool.eq_false_iff]; intro h; exact e (Nat.eq_of_beq_eq_true h).symm
        rw [this]; rfl
    have hold : ∀ k, (listed.setIfInBounds i true).getD k false = false → listed.getD k false = false ∧ k ≠ i := fun k hk => by
      rw [hset] at hk
      cases e : Nat.beq i k with
      | true => rw [e] at hk; cases hk
      | false => rw [e] at hk; exact ⟨hk, fun h => by subst h; simp at e⟩
    have hplus : (fun k => (listed.setIfInBounds i true).getD k false) = plus (fun k => listed.getD k false) i := by
      funext k; rw [hset]; rfl
    have hleft : left (fun k => (listed.setIfInBounds i true).getD k false) all.length ≤ fuel := by
      rw [hplus]
      have := left_plus (p := fun k => listed.getD k false) hpi all.length hi'
      omega
    have look : ∀ t ∈ Zcb o.op, τ.tm t = σ.tm t := fun t ht => I.tm t fun i' hi2 hl2 o2 ho2 hd2 => by
      obtain ⟨o3, d, h3, h4, h5⟩ := hS.dst i' hi2
      rw [ho2] at h3; cases h3
      rw [hd2] at h4; cases h4
      obtain ⟨e, he, hb, hon⟩ := onE_spec ((h5 i o ho').1 ht)
      have := hedge e (by simpa using he) hb
      rw [hon, hl2] at this; cases this
    by_cases hiS : i ∈ S
    · obtain ⟨o3, d, h3, h4, h5⟩ := hS.dst i hiS
      rw [ho'] at h3; cases h3
      have h6 := I.re i hiS hpi o d ho' h4
      have h7 := evOp_look (σ' := τ) hgd look I.hh h6
      obtain ⟨e, ⟨he1, he2⟩, hloc⟩ := Zfa h7
      have hn : Next1 P T all i o τ fun τ' => τ' = τ.put (some d) (σ.tm d) := by
        unfold Next1
        refine hloc τ ⟨fun _ _ => rfl, fun _ _ => rfl, fun _ _ => rfl, fun _ => rfl, fun _ => rfl⟩ _ ⟨by rw [he2]; rfl, ?_⟩
        rw [appS_plain hS.gs hgd, he1, he2, h4]; rfl
      refine Zdq (L := L) hT hr s ho' hn (fun τ' ι' a' w' hτ hs hg' => ?_)
      subst hτ
      refine ih F _ done _ σ ι' a' w' ⟨by simp [I.sz], fun k hk => ?_, by rw [put_h]; exact I.hh, fun t ht => ?_, fun i2 hi2 hl2 o2 d2 ho2 hd2 => I.re i2 hi2 (hold i2 hl2).1 o2 d2 ho2 hd2⟩ hleft hg hs (hgo.trans hg')
      · rw [I.dn k hk, hset]
        cases e2 : Nat.beq i k with
        | true => have := Nat.eq_of_beq_eq_true e2; subst this; simp [hiS]
        | false => rfl
      · rw [put_tm]
        split
        · rename_i e2; cases e2; rfl
        · rename_i hne
          refine I.tm t fun i2 hi2 hl2 o2 ho2 hd2 => ?_
          by_cases e2 : i2 = i
          · subst e2
            rw [ho'] at ho2; cases ho2
            rw [h4] at hd2; exact hne hd2
          · refine ht i2 hi2 ?_ o2 ho2 hd2
            rw [hset]
            have : Nat.beq i i2 = false := by rw [Bool.eq_false_iff]; intro h; exact e2 (Nat.eq_of_beq_eq_true h).symm
            rw [this]; exact hl2
    · cases F with
      | zero => exact hg.elim
      | succ F =>
        have hmem : i ∈ readyN done 0 all := by
          have := mem_readyN (done := done) (l := all) (s := 0) (k := i) ho' (by
            rw [Nat.zero_add]
            cases e : tb done i with
            | false => rfl
            | true => rcases (I.dn i hi').1 e with h | h
                      · rw [hpi] at h; cases h
                      · exact (hiS h).elim) (edgesIn_of fun e he hb => by
              have := hedge e (by simpa using he) hb
              exact (I.dn e.on (by have := hS.edge i o ho' e (by simpa using he) hb; omega)).2 (.inl this))
          rwa [Nat.zero_add] at this
        simp only [GH] at hg
        cases hrn : readyN done 0 all with
        | nil => rw [hrn] at hmem; cases hmem
        | cons x r =>
          rw [hrn] at hg hmem
          have hst := allR_mem hg hmem
          simp only [getO_eq, ho'] at hst
          obtain ⟨d, op, ty, pos, after, g⟩ := o
          simp only at hst hgd
          subst hgd
          have h1 := gOp_evOp (o := ⟨d, op, ty, pos, after, none⟩) hst
          have h2 := evOp_look (σ' := τ) rfl look I.hh h1
          obtain ⟨e, he, hloc⟩ := Zfa h2
          rw [Zb3, fForceUp_eq] at he
          cases hb : fUpOk [] σ.h d none e.up with
          | false => rw [hb] at he; exact he.elim
          | true =>
            rw [hb] at he
            simp only [orFalse] at he
            rw [fUp_eq ⟨d, op, ty, pos, after, none⟩] at he
            have e3 : ∀ (τ : ASt) (k : (Nat → AV) → Prop), fPut d none e.val τ.tm k = k (τ.put d (gval none e.val)).tm := by
              intro τ k; unfold fPut; cases d with
              | none => rfl
              | some d => simp only [Zb3]; rfl
            rw [e3] at he
            have hhe : (upS (Zat ⟨d, op, ty, pos, after, none⟩) e.up ⟨σ.tm, σ.h⟩).h = ((upS (Zat ⟨d, op, ty, pos, after, none⟩) e.up ⟨σ.tm, σ.h⟩).put d (gval none e.val)).h := (put_h _ _ _).symm
            rw [hhe] at he
            obtain ⟨hgn, hre⟩ := reS_spec he
            rw [forceN_eq] at hgn
            have hn : Next1 P T all i ⟨d, op, ty, pos, after, none⟩ τ fun τ' => τ' = (upS (Zat ⟨d, op, ty, pos, after, none⟩) e.up τ).put d (gval none e.val) := by
              unfold Next1
              refine hloc τ ⟨fun _ _ => rfl, fun _ _ => rfl, fun _ _ => rfl, fun _ => rfl, fun _ => rfl⟩ _ ⟨?_, appS_plain hS.gs rfl⟩
              rw [← hb, ← I.hh]
              unfold upOk fUpOk; rw [hS.gs]; cases e.up <;> rfl
            refine Zdq (L := L) hT hr s ho' hn (fun τ' ι' a' w' hτ hs hg' => ?_)
            subst hτ
            refine ih F _ _ _ ((upS (Zat ⟨d, op, ty, pos, after, none⟩) e.up ⟨σ.tm, σ.h⟩).put d (gval none e.val)) ι' a' w' ⟨by simp [I.sz], fun k hk => ?_, ?_, fun t ht => ?_, fun i2 hi2 hl2 o2 d2 ho2 hd2 => ?_⟩ hleft hgn hs (hgo.trans hg')
            · rw [tb_or, hset, Bool.or_eq_true, I.dn k hk]
              cases e2 : Nat.beq i k with
              | true => simp
              | false => simp
            · rw [put_h, put_h]; exact upS_h_of _ _ I.hh
            · rw [put_tm, put_tm]
              split
              · rfl
              · refine upS_tm_of _ _ (I.tm t fun i2 hi2 hl2 o2 ho2 hd2 => ?_)
                by_cases e2 : i2 = i
                · subst e2; exact hiS hi2
                · refine ht i2 hi2 ?_ o2 ho2 hd2
                  rw [hset]
                  have : Nat.beq i i2 = false := by rw [Bool.eq_false_iff]; intro h; exact e2 (Nat.eq_of_beq_eq_true h).symm
                  rw [this]; exact hl2
            · refine hre i2 hi2 ?_ o2 d2 ho2 hd2
              cases e2 : onE i2 after.toList with
              | false => rfl
              | true =>
                obtain ⟨e4, he4, hb4, hon⟩ := onE_spec e2
                have := hedge e4 (by simpa using he4) hb4
                rw [hon, (hold i2 hl2).1] at this; cases this
theorem laterB_spec {lk : List Nat} : ∀ {r : List Nat} {i : Nat} {o : Oper} {d : Nat}, laterB all lk r = true → i ∈ r → all[i]? = some o → o.dst = some d → d ∉ lk
  | [], i, _, _, _, h, _, _ => by cases h
  | x :: r, i, o, d, h, hi, ho, hd => by
      simp only [laterB, Bool.and_eq_true] at h
      rcases List.mem_cons.1 hi with e | e
      · subst e
        have : Zfv? all i = some d := by unfold Zfv?; rw [getO_eq, ho]; exact hd
        exact Zfw h.1 d this
      · exact laterB_spec h.2 e ho hd
theorem statS_later : ∀ {S : List Nat} {S1 : List Nat} {i : Nat} {r : List Nat}, statS all S = true → S = S1 ++ i :: r → ∀ i' ∈ S1, i' ≠ i ∧ ∀ o' o d, all[i']? = some o' → all[i]? = some o → o.dst = some d → d ∉ Zcb o'.op
  | _, [], i, r, _, _, i', hi' => by cases hi'
  | S, x :: S1, i, r, h, he, i', hi' => by
      subst he
      simp only [List.cons_append, statS, Bool.and_eq_true] at h
      rcases List.mem_cons.1 hi' with e | e
      · subst e
        have h1 := h.1
        rw [getO_eq] at h1
        cases ho : all[i']? with
        | none => rw [ho] at h1; cases h1
        | some o0 =>
          rw [ho] at h1
          simp only at h1
          cases hd : o0.dst with
          | none => rw [hd] at h1; cases h1
          | some d0 =>
            rw [hd] at h1
            simp only [Bool.and_eq_true] at h1
            refine ⟨fun e => ?_, fun o' o d h2 h3 h4 => ?_⟩
            · subst e
              exact noI_spec h1.2 _ (List.mem_cons_self ..) (by simp)
            · cases h2
              exact laterB_spec h1.1.2 (by simp) h3 h4
      · exact statS_later h.2 rfl i' e
theorem stat_of {S : List Nat} (hg : Zaq all = []) (he : edgesA 0 all = true) (hs : statS all S = true) : Stat all S := by
  refine ⟨hg, fun k o ho e hm hb => by have := edgesA_spec he ho e (by simpa using hm) hb; omega, ?_⟩
  clear he
  induction S with
  | nil => intro i hi; cases hi
  | cons x r ih =>
    intro i hi
    have h0 := hs
    simp only [statS, Bool.and_eq_true] at hs
    rcases List.mem_cons.1 hi with e | e
    · subst e
      have h1 := hs.1
      rw [getO_eq] at h1
      cases ho : all[i]? with
      | none => rw [ho] at h1; cases h1
      | some o0 =>
        rw [ho] at h1
        simp only at h1
        cases hd : o0.dst with
        | none => rw [hd] at h1; cases h1
        | some d0 =>
          rw [hd] at h1
          simp only [Bool.and_eq_true] at h1
          refine ⟨o0, d0, rfl, hd, fun k x hx => ?_⟩
          have := statI_spec h1.1.1 hx
          rw [Nat.zero_add] at this
          exact this
    · exact ih hs.2 i e
theorem GS_ex {S : List Nat} (hS : Stat all S) (hs : statS all S = true) {F : Nat} {K : ASt → Prop} {σ0 : ASt} : ∀ (r S1 : List Nat) (done : Nat) (tm : Nat → AV), S = S1 ++ r →
    (∀ k, k < all.length → (tb done k = true ↔ k ∈ S1)) → (∀ t, (∀ i ∈ S1, ∀ o, all[i]? = some o → o.dst ≠ some t) → σ0.tm t = tm t) →
    (∀ i ∈ S1, ∀ o d, all[i]? = some o → o.dst = some d → evOp P T all ⟨tm, σ0.h⟩ o fun e => gval none e.val = tm d ∧ e.up = .none) →
    GS P T all S F r done tm σ0.h K → ∃ done' σ, Inv P T all S (Array.replicate all.length false) done' σ0 σ ∧ GH P T all S F done' σ.tm σ.h K
  | [], S1, done, tm, hsp, h1, h2, h3, hg => by
      rw [List.append_nil] at hsp
      subst hsp
      have hno : ∀ k, (Array.replicate all.length false).getD k false = false := fun k => none_getD _ k
      refine ⟨done, ⟨tm, σ0.h⟩, ⟨by simp, fun k hk => ?_, rfl, fun t ht => h2 t fun i hi => ht i hi (hno i), fun i hi _ o d ho hd => h3 i hi o d ho hd⟩, hg⟩
      rw [h1 k hk, hno k]; simp
  | i :: r, S1, done, tm, hsp, h1, h2, h3, hg => by
      simp only [GS] at hg
      split at hg
      · rename_i d op ty pos after g hgo
        rw [getO_eq] at hgo
        have hgd := Zfu hS.gs hgo
        simp only at hgd
        subst hgd
        have h4 := gOp_evOp (o := ⟨some d, op, ty, pos, after, none⟩) hg
        obtain ⟨e, he, hloc⟩ := Zfa h4
        rw [Zb3] at he
        cases hb : noneUp e.up with
        | false => rw [hb] at he; exact he.elim
        | true =>
          rw [hb] at he
          simp only [orFalse, fPut] at he
          rw [Zb3, forceN_eq] at he
          have hup : e.up = .none := by cases hu : e.up <;> rw [hu] at hb <;> first | rfl | cases hb
          have hiS : i ∈ S := by rw [hsp]; simp
          obtain ⟨o3, d3, g1, g2, g3⟩ := hS.dst i hiS
          rw [hgo] at g1; cases g1
          cases g2
          have hself : d ∉ Zcb op := fun hm => by
            obtain ⟨e5, he5, hb5, hon⟩ := onE_spec ((g3 i _ hgo).1 hm)
            have := hS.edge i _ hgo e5 (by simpa using he5) hb5
            omega
          have hupd : ∀ t, t ≠ d → updT tm d (gval none e.val) t = tm t := fun t ht => by
            unfold updT
            have : Nat.beq t d = false := by rw [Bool.eq_false_iff]; intro h; exact ht (Nat.eq_of_beq_eq_true h)
            have h' : Nat.beq d t = false := by rw [Bool.eq_false_iff]; intro h; exact ht (Nat.eq_of_beq_eq_true h).symm
            simp only [h', cond_false]
          have hupdd : updT tm d (gval none e.val) d = gval none e.val := by unfold updT; simp
          have hlat := statS_later hs hsp
          refine GS_ex hS hs r (S1 ++ [i]) _ (updT tm d (gval none e.val)) (by rw [hsp]; simp) (fun k hk => ?_) (fun t ht => ?_) (fun i' hi' o' d' ho' hd' => ?_) he
          · rw [tb_or, Bool.or_eq_true, h1 k hk, List.mem_append, List.mem_singleton]
            constructor
            · rintro (h | h)
              · exact .inl h
              · exact .inr (Nat.eq_of_beq_eq_true h).symm
            · rintro (h | h)
              · exact .inl h
              · subst h; exact .inr (by simp)
          · have hne : t ≠ d := fun e6 => by subst e6; exact ht i (by simp) _ hgo rfl
            rw [hupd t hne]
            exact h2 t fun i' hi' => ht i' (List.mem_append_left _ hi')
          · rcases List.mem_append.1 hi' with h | h
            · obtain ⟨l1, l2⟩ := hlat i' h
              have hd1 : d ∉ Zcb o'.op := l2 o' _ d ho' hgo rfl
              have hd2 : d' ≠ d := fun e6 => by subst e6; exact (g3 i' o' ho').2 l1 hd'
              rw [hupd d' hd2]
              refine evOp_look (σ := ⟨tm, σ0.h⟩) (σ' := ⟨updT tm d (gval none e.val), σ0.h⟩) (Zfu hS.gs ho') (fun t ht => ?_) rfl (h3 i' h o' d' ho' hd')
              exact hupd t fun e6 => by subst e6; exact hd1 ht
            · rw [List.mem_singleton] at h
              subst h
              rw [hgo] at ho'; cases ho'
              cases hd'
              have : evOp P T all ⟨tm, σ0.h⟩ ⟨some d, op, ty, pos, after, none⟩ fun e' => gval none e'.val = gval none e.val ∧ e'.up = .none := hloc _ ⟨fun _ _ => rfl, fun _ _ => rfl, fun _ _ => rfl, fun _ => rfl, fun _ => rfl⟩ _ ⟨rfl, hup⟩
              rw [hupdd]
              refine evOp_look (σ := ⟨tm, σ0.h⟩) (σ' := ⟨updT tm d (gval none e.val), σ0.h⟩) rfl (fun t ht => ?_) rfl this
              exact hupd t fun e6 => by subst e6; exact hself ht
      · exact hg.elim
def GSS (P : Program) (T : Zba) (all : List Oper) (S : List Nat) (F : Nat) (σ : ASt) (K : ASt → Prop) : Prop := match σ with
  | ⟨tm, h⟩ => GS P T all S F S 0 tm h K
theorem Zdx (hT : TOk P T) (hm : P.follows .mixedOrders = true) {id : Nat} {ops : Array Oper} {Q : Exit → ASt → Prop} {σ : ASt} (hr : regOk n ops.toList = true) (S : List Nat) (F : Nat)
    (hg : Zaq ops.toList = []) (he : edgesA 0 ops.toList = true) (hs : statS ops.toList S = true) (hh : GSS P T ops.toList S F σ (Q .normal)) : AWp P n L (.region id ops true) Q σ := by
  obtain ⟨tm, h⟩ := σ
  refine AWp.regionAny hm hr (fun X ι a w s => ?_)
  have hS := stat_of hg he hs
  have hh' : GS P T ops.toList S F S 0 tm h (Q .normal) := hh
  obtain ⟨done, σ, I, hG⟩ := GS_ex (σ0 := ⟨tm, h⟩) hS hs S [] 0 tm rfl (fun k _ => by simp [tb_eq]) (fun t _ => rfl) (fun i hi => by cases hi) hh'
  have s1 := drawn_St s (w.drawn + 1)
  have key := soft_sound (n := n) (X := X) hT (Ze3 hr) hS (Q := fun e a' w' => e = .normal ∧ ∃ τ ι', Q .normal τ ∧ St n X τ ι' a' w' ∧ Zbo L X ι ι' w w') (ι0 := ι) (w0 := w) (fun σ ι' a' w' hK s' hgo =>
      ⟨rfl, _, ι', hK, ⟨s'.sim, s'.defers, s'.size, fun t => s'.tm t (fun j b v e => by have := (s'.gd t j b v e).1; simp [hg] at this)⟩, hgo⟩)
    ops.size F (Array.replicate ops.toList.length false) done ⟨tm, h⟩ σ ι a { w with drawn := w.drawn + 1 } I
    (by have := left_le (fun k => (Array.replicate ops.toList.length false).getD k false) ops.toList.length; simpa using this)
    hG (StG.of_St s1) ⟨⟨drawn_fr _ w _, fun _ h => .inl h⟩, fun _ _ _ _ _ h => h⟩
  simpa using key
end
end Dv
namespace Dv
open Go
def HG (P : Program) (L : List Id) (f : FuncId) (H0 : Zao) (args : List AV) (r : AV) (H1 : Zao) : Prop :=
  Zei P f ∧ ∀ (X : Nat → Prop) (ι : Zah) (w : World) (vals : List Value), Sim X H0 ι w → Vs w (Own X ι) args ι vals →
    Calls P f vals.toArray w fun e w' => ∃ v ι', e = .returned v ∧ Sim X H1 ι' w' ∧ V w' (Own X ι') r ι' v ∧ Zbo L X ι ι' w w'
def LeavesG (T : Zba) (fn : Func) (r : AV) (H1 : Zao) (e : Exit) (τ : ASt) : Prop := match e with
  | .ret | .normal => ∃ xs, Zd0 T τ fn.results.toList = some xs ∧ τ.h = H1 ∧ retAV xs = r
  | _ => False
theorem entryG_St {n : Nat} {X : Nat → Prop} {ι : Zah} {w : World} {h0 : Zao} (s : Sim X h0 ι w) {args : List AV} {vals : List Value} (h : Vs w (Own X ι) args ι vals) (hn : args.length ≤ n) :
    St n X ⟨nthAV args, h0⟩ ι { tmps := vals.toArray ++ Array.replicate (n - vals.toArray.size) undef, defers := [] } w := by
  have hl := Zby h
  refine ⟨s, rfl, by simp; omega, fun t => ?_⟩
  have := entry_VG (n - vals.length) t h
  have e : ({ tmps := vals.toArray ++ Array.replicate (n - vals.toArray.size) undef, defers := [] } : Act).tmps = (vals ++ List.replicate (n - vals.length) undef).toArray := by
    apply Array.ext'; simp
  rw [e]
  simpa [Array.getD_eq_getD_getElem?, List.getD_eq_getElem?_getD] using this
theorem HG_intro {P : Program} {T : Zba} (hT : TOk P T) {L : List Id} {f : FuncId} {fn : Func} {c : Code} {args : List AV} {r : AV} {H0 H1 : Zao} (hf : P.funcs[f]? = some fn) (hb : fn.body = some c) (hname : (fn.name == "runtime.NumGoroutine") = false) (hn : args.length ≤ fn.ntmps)
    (h : AWp P fn.ntmps L c (LeavesG T fn r H1) ⟨nthAV args, H0⟩) : HG P L f H0 args r H1 := by
  refine ⟨⟨fn, hf, by rw [hb]; rfl, hname⟩, fun X ι w vals s hV => ?_⟩
  refine AWp.calls hf hb h (entryG_St s hV hn) ?_ (fun _ _ h => h)
  rintro e τ ι' a' w' hq hs hg
  have fin : (∃ xs, Zd0 T τ fn.results.toList = some xs ∧ τ.h = H1 ∧ retAV xs = r) →
      a'.defers = [] ∧ ∃ v, (results fn a'.tmps).run P w' = .ok v w' ∧ ∃ v' ι', Ending.returned v = .returned v' ∧ Sim X H1 ι' w' ∧ V w' (Own X ι') r ι' v' ∧ Zbo L X ι ι' w w' := by
    rintro ⟨xs, e1, e2, e3⟩
    obtain ⟨v, h3, h4⟩ := Zek (P := P) hT hs e1
    subst e2; subst e3
    exact ⟨hs.defers, v, h3, v, ι', rfl, hs.sim, h4, hg⟩
  cases e with
  | ret => exact fin hq
  | normal => exact fin hq
  | _ => exact hq.elim
theorem QH.giveF {P : Program} {h : Zao} {f : FuncId} {args args' : List AV} {r : AV} {h1 : Zao} {rd : List Id} (hc : HF P f args' r h1) (hs : Ress h rd args args') (hfree : ∀ i, (h1 i).isSome = true → h i = none) : QH P h f args rd h1 r := by
  refine ⟨hc.1, fun X ι w vals s hV => ?_⟩
  refine (hc.2 (Out X ι rd) w vals (fun b hb => out_lt s hb) (Ress.Vs s hs hV)).mono ?_
  rintro e w' ⟨v, ι', rfl, hfr, s', hnew, hv⟩
  let κ : Zah := fun j => match h1 j with
    | some _ => ι' j
    | none => bif memI j rd then none else ι j
  have κ1 : ∀ {j}, (h1 j).isSome = true → κ j = ι' j := fun {j} e => by
    simp only [κ]; cases hb : h1 j with
    | none => rw [hb] at e; cases e
    | some b => rfl
  have κ0 : ∀ {j}, h1 j = none → memI j rd = false → κ j = ι j := fun {j} e e2 => by simp only [κ, e, e2, cond_false]
  have κd : ∀ {j}, h1 j = none → memI j rd = true → κ j = none := fun {j} e e2 => by simp only [κ, e, e2, cond_true]
  have κc : ∀ {j l}, κ j = some l → ((h1 j).isSome = true ∧ ι' j = some l) ∨ (h1 j = none ∧ memI j rd = false ∧ ι j = some l) := fun {j l} e => by
    cases hb : h1 j with
    | some x => left; rw [κ1 (by rw [hb]; rfl)] at e; exact ⟨rfl, e⟩
    | none =>
      cases hm : memI j rd with
      | true => rw [κd hb hm] at e; cases e
      | false => rw [κ0 hb hm] at e; exact .inr ⟨rfl, rfl, e⟩
  have hmine : ∀ b, Mine κ b → (∃ j c, j ∉ rd ∧ ι j = some (.at b c)) ∨ Mine ι' b := by
    rintro b ⟨j, c, e⟩
    rcases κc e with ⟨_, e⟩ | ⟨_, hm, e⟩
    · exact .inr ⟨j, c, e⟩
    · exact .inl ⟨j, c, (fun h => by rw [← Zb7, hm] at h; cases h), e⟩
  have hold : ∀ b, (∃ j c, j ∉ rd ∧ ι j = some (.at b c)) → Mine ι b := fun b ⟨j, c, _, e⟩ => ⟨j, c, e⟩
  have sub' : Sub ι' κ := fun j l e => by
    cases hb : h1 j with
    | none => have := s'.lost hb; rw [this] at e; cases e
    | some x => rw [κ1 (by rw [hb]; rfl)]; exact e
  have k : Keep w w' (Own X ι) (Own X κ) := ⟨hfr.size, fun b hb _ => hfr.block b hb (fun h => h), fun b hb h => h.imp id (fun hm => hold b ((hmine b hm).resolve_right (fun h2 => by have := hnew b h2; omega)))⟩
  have k' : Keep w' w' (Own (Out X ι rd) ι') (Own X κ) := ⟨Nat.le_refl _, fun _ _ _ => rfl, fun b _ h => by
    rcases h with h | h
    · exact .inl (.inl h)
    · rcases hmine b h with ⟨j, c, h2, h3⟩ | h2
      · exact .inl (.inr ⟨j, c, h2, h3⟩)
      · exact .inr h2⟩
  have mk : MapOk (killL rd) ι κ := by
    intro i j e l hl hi
    obtain ⟨rfl, hm⟩ := killL_some e
    cases hb : h1 j with
    | none => rw [κ0 hb hm]; exact hi
    | some x =>
      have := s.lost (hfree j (by rw [hb]; rfl))
      rw [this] at hi; cases hi
  refine ⟨v, κ, rfl, ⟨fun j => ?_, fun j blk l e1 e2 => ?_, fun j j' b c d e1 e2 => ?_, fun j b c e => ?_, fun b hb => Nat.lt_of_lt_of_le (s.below b hb) hfr.size⟩, fun y u' hy => ?_, Zbp k' _ _ sub' hv, ⟨hfr.weak (fun _ h => h.elim), fun b hb => (hmine b hb).imp (hold b) (hnew b)⟩⟩
  · simp only [bigH]
    cases hb : h1 j with
    | none =>
      cases hm : memI j rd with
      | true => rw [κd hb hm]; rfl
      | false => rw [κ0 hb hm, s.dom j]; simp only [cond_false]; cases h j <;> rfl
    | some x => rw [κ1 (by rw [hb]; rfl), s'.dom j, hb]
  · simp only [bigH] at e1
    cases hb : h1 j with
    | some x =>
      rw [hb] at e1; cases e1
      rw [κ1 (by rw [hb]; rfl)] at e2
      exact Zbm k' sub' _ _ (fun _ _ _ => rfl) (s'.rel j _ l hb e2)
    | none =>
      rw [hb] at e1
      rcases κc e2 with ⟨h2, _⟩ | ⟨_, hm, e3⟩
      · rw [hb] at h2; cases h2
      · rw [hm] at e1
        simp only [cond_false] at e1
        cases hh : h j with
        | none => rw [hh] at e1; cases e1
        | some b0 =>
          rw [hh] at e1
          simp only [Option.map_some, Option.some.injEq] at e1
          subst e1
          rw [mapKB_eq]
          refine Zfj mk b0 l (Zbm k (Sub.refl _) _ _ (fun b c hl => ?_) (s.rel j b0 l hh e3))
          subst hl
          exact hfr.block b (s.lt e3) (fun h => h)
  · rcases κc e1 with ⟨_, f1⟩ | ⟨_, _, f1⟩ <;> rcases κc e2 with ⟨_, f2⟩ | ⟨_, _, f2⟩
    · exact s'.inj _ _ _ _ _ f1 f2
    · have := s.lt f2; have := hnew b ⟨_, _, f1⟩; omega
    · have := s.lt f1; have := hnew b ⟨_, _, f2⟩; omega
    · exact s.inj _ _ _ _ _ f1 f2
  · rcases κc e with ⟨_, f1⟩ | ⟨_, _, f1⟩
    · exact fun hx => s'.apart _ _ _ f1 (.inl hx)
    · exact s.apart _ _ _ f1
  · rw [mapK_eq]
    exact V_mapG mk y u' (Zbp k y u' (Sub.refl _) hy)
end Dv
namespace Dv
open Go
section
variable {P : Program} {T : Zba} {n : Nat} {X : Nat → Prop} {σ : ASt} {ι : Zah} {a : Act} {w : World}
end
end Dv
namespace Dv
open Go
end Dv
namespace Dv
open Go
mutual
def ownF : AV → Bool
  | .any => true
  | .int _ _ => true
  | .bool _ => true
  | .str _ => true
  | .nsl => true
  | .np => true
  | .rs _ _ _ _ => true
  | .rp _ _ _ _ => true
  | .bp _ _ => true
  | .mp _ => true
  | .nif => true
  | .nfn => true
  | .is _ => true
  | .agg cs => ownFs cs
  | .tup cs => ownFs cs
  | .sl _ _ _ => false
  | .ip _ => false
  | .fn _ _ => false
  | .ifc _ _ => false
  | .guard _ _ _ => false
def ownFs : List AV → Bool
  | [] => true
  | c :: cs => ownF c && ownFs cs
end
mutual
theorem V_own {w : World} {own own' : Nat → Prop} {ι : Zah} : ∀ (x : AV) (v : Value), ownF x = true → V w own x ι v → V w own' x ι v
  | .any, _, _, _ => by simp only [V]
  | .int _ _, _, _, h => by simp only [V] at h ⊢; exact h
  | .bool _, _, _, h => by simp only [V] at h ⊢; exact h
  | .str _, _, _, h => by simp only [V] at h ⊢; exact h
  | .nsl, _, _, h => by simp only [V] at h ⊢; exact h
  | .np, _, _, h => by simp only [V] at h ⊢; exact h
  | .rs _ _ _ _, _, _, h => by simp only [V] at h ⊢; exact h
  | .rp _ _ _ _, _, _, h => by simp only [V] at h ⊢; exact h
  | .bp _ _, _, _, h => by simp only [V] at h ⊢; exact h
  | .mp _, _, _, h => by simp only [V] at h ⊢; exact h
  | .nif, _, _, h => by simp only [V] at h ⊢; exact h
  | .nfn, _, _, h => by simp only [V] at h ⊢; exact h
  | .is _, _, _, h => by simp only [V] at h ⊢; exact h
  | .agg cs, _, hi, h => by
      simp only [ownF] at hi
      simp only [V] at h ⊢; obtain ⟨a, e, h⟩ := h; exact ⟨a, e, Vs_own cs a hi h⟩
  | .tup cs, _, hi, h => by
      simp only [ownF] at hi
      simp only [V] at h ⊢; obtain ⟨a, e, h⟩ := h; exact ⟨a, e, Vs_own cs a hi h⟩
  | .sl _ _ _, _, hi, _ => by simp only [ownF] at hi; cases hi
  | .ip _, _, hi, _ => by simp only [ownF] at hi; cases hi
  | .fn _ _, _, hi, _ => by simp only [ownF] at hi; cases hi
  | .ifc _ _, _, hi, _ => by simp only [ownF] at hi; cases hi
  | .guard _ _ _, _, hi, _ => by simp only [ownF] at hi; cases hi
theorem Vs_own {w : World} {own own' : Nat → Prop} {ι : Zah} : ∀ (cs : List AV) (vs : List Value), ownFs cs = true → Vs w own cs ι vs → Vs w own' cs ι vs
  | [], _, _, h => by simp only [Vs] at h ⊢; exact h
  | c :: cs, _, hi, h => by
      simp only [ownFs, Bool.and_eq_true] at hi
      simp only [Vs] at h ⊢
      obtain ⟨v, r, e, h1, h2⟩ := h
      exact ⟨v, r, e, V_own c v hi.1 h1, Vs_own cs r hi.2 h2⟩
end
theorem Vc_own {w : World} {own own' : Nat → Prop} {ι : Zah} : ∀ (cs : List AV) (b o : Nat), ownFs cs = true → Vc w own cs ι b o → Vc w own' cs ι b o
  | [], _, _, _, _ => by simp only [Vc]
  | c :: cs, b, o, hi, h => by
      simp only [ownFs, Bool.and_eq_true] at hi
      simp only [Vc] at h ⊢
      obtain ⟨⟨v, e, h0, h1⟩, h2⟩ := h
      exact ⟨⟨v, e, h0, V_own c v hi.1 h1⟩, Vc_own cs b (o + 1) hi.2 h2⟩
def ownB : Zam → Prop
  | .row _ _ n f => ∀ i, i < n → ownFs (f i) = true
  | .map _ => True
theorem BRel_own {w : World} {own own' : Nat → Prop} {ι : Zah} (blk : Zam) (l : Loc) (hi : ownB blk) (h : BRel w own ι blk l) : BRel w own' ι blk l := by
  cases blk with
  | map m => cases l <;> exact h
  | row imm sz n f =>
    cases l with
    | nil => exact h
    | ghost => trivial
    | «at» b c =>
      simp only [BRel] at h ⊢
      obtain ⟨arr, T, h1, h2, h3, h4⟩ := h
      exact ⟨arr, T, h1, h2, h3, fun i hx => ⟨(h4 i hx).1, Vc_own _ _ _ (hi i hx) (h4 i hx).2⟩⟩
theorem QH.lendF {P : Program} {h : Zao} {f : FuncId} {args args' : List AV} {r : AV} {h1 : Zao} {rd : List Id} (hc : HF P f args' r h1) (hs : Ress h rd args args') (hfree : ∀ i, (h1 i).isSome = true → h i = none)
    (hr : ownF r = true) (ho : ∀ j b, h1 j = some b → ownB b) : QH P h f args [] h1 r := by
  refine ⟨hc.1, fun X ι w vals s hV => ?_⟩
  refine (hc.2 (Out X ι rd) w vals (fun b hb => out_lt s hb) (Ress.Vs s hs hV)).mono ?_
  rintro e w' ⟨v, ι', rfl, hfr, s', hnew, hv⟩
  let κ : Zah := fun j => match h1 j with
    | some _ => ι' j
    | none => ι j
  have κ1 : ∀ {j}, (h1 j).isSome = true → κ j = ι' j := fun {j} e => by
    simp only [κ]; cases hb : h1 j with
    | none => rw [hb] at e; cases e
    | some b => rfl
  have κ0 : ∀ {j}, h1 j = none → κ j = ι j := fun {j} e => by simp only [κ, e]
  have hmine : ∀ b, Mine κ b → Mine ι b ∨ Mine ι' b := by
    rintro b ⟨j, c, e⟩
    cases hb : h1 j with
    | none => rw [κ0 hb] at e; exact .inl ⟨j, c, e⟩
    | some x => rw [κ1 (by rw [hb]; rfl)] at e; exact .inr ⟨j, c, e⟩
  have sub : Sub ι κ := fun j l e => by
    cases hb : h1 j with
    | none => rw [κ0 hb]; exact e
    | some x =>
      have := s.lost (hfree j (by rw [hb]; rfl))
      rw [this] at e; cases e
  have sub' : Sub ι' κ := fun j l e => by
    cases hb : h1 j with
    | none => have := s'.lost hb; rw [this] at e; cases e
    | some x => rw [κ1 (by rw [hb]; rfl)]; exact e
  have k : Keep w w' (Own X ι) (Own X κ) := ⟨hfr.size, fun b hb _ => hfr.block b hb (fun h => h), fun b hb h => h.imp id (fun hm => (hmine b hm).resolve_right (fun h2 => by have := hnew b h2; omega))⟩
  have k' : Keep w' w' (Own X κ) (Own X κ) := ⟨Nat.le_refl _, fun _ _ _ => rfl, fun b _ h => h⟩
  refine ⟨v, κ, rfl, ⟨fun j => ?_, fun j blk l e1 e2 => ?_, fun j j' b c d e1 e2 => ?_, fun j b c e => ?_, fun b hb => Nat.lt_of_lt_of_le (s.below b hb) hfr.size⟩, fun y u' hy => Zbp k _ _ sub hy, Zbp k' _ _ sub' (V_own r v hr hv), ⟨hfr.weak (fun _ h => h.elim), fun b hb => (hmine b hb).imp id (hnew b)⟩⟩
  · simp only [bigH]
    cases hb : h1 j with
    | none => rw [κ0 hb, s.dom j]; simp only [memI, cond_false]; cases h j <;> rfl
    | some x => rw [κ1 (by rw [hb]; rfl), s'.dom j, hb]
  · simp only [bigH] at e1
    cases hb : h1 j with
    | some x =>
      rw [hb] at e1; cases e1
      rw [κ1 (by rw [hb]; rfl)] at e2
      exact Zbm k' sub' _ _ (fun _ _ _ => rfl) (BRel_own _ _ (ho j _ hb) (s'.rel j _ l hb e2))
    | none =>
      rw [hb] at e1
      rw [κ0 hb] at e2
      simp only [memI, cond_false] at e1
      cases hh : h j with
      | none => rw [hh] at e1; cases e1
      | some b0 =>
        rw [hh] at e1
        simp only [Option.map_some, Option.some.injEq] at e1
        subst e1
        refine Zbm k sub _ _ (fun b c hl => ?_) (s.rel j b0 l hh e2)
        subst hl
        exact hfr.block b (s.lt e2) (fun h => h)
  · cases hb : h1 j with
    | none =>
      rw [κ0 hb] at e1
      cases hb' : h1 j' with
      | none => rw [κ0 hb'] at e2; exact s.inj _ _ _ _ _ e1 e2
      | some x =>
        rw [κ1 (by rw [hb']; rfl)] at e2
        have := s.lt e1; have := hnew b ⟨_, _, e2⟩; omega
    | some x =>
      rw [κ1 (by rw [hb]; rfl)] at e1
      cases hb' : h1 j' with
      | none =>
        rw [κ0 hb'] at e2
        have := s.lt e2; have := hnew b ⟨_, _, e1⟩; omega
      | some x' => rw [κ1 (by rw [hb']; rfl)] at e2; exact s'.inj _ _ _ _ _ e1 e2
  · cases hb : h1 j with
    | none => rw [κ0 hb] at e; exact s.apart _ _ _ e
    | some x => rw [κ1 (by rw [hb]; rfl)] at e; exact fun hx => s'.apart _ _ _ e (.inl hx)
end Dv
namespace Dv
open Go
def kpH (H0 : Zao) (i : Id) : Option Id := match H0 i with
  | some _ => some i
  | none => none
theorem kpH_some {H0 : Zao} {i j : Id} (h : kpH H0 i = some j) : j = i ∧ (H0 i).isSome = true := by
  unfold kpH at h
  cases e : H0 i with
  | none => rw [e] at h; cases h
  | some b => rw [e] at h; exact ⟨(Option.some.inj h).symm, rfl⟩
theorem QH.frame {P : Program} {L : List Id} {f : FuncId} {h H0 H1 : Zao} {args : List AV} {r : AV} {dead : List Id} (hc : HG P L f H0 args r H1)
    (hsub : ∀ j b, H0 j = some b → h j = some b) (hcl : ∀ j b, H0 j = some b → mapB (kpH H0) b = b) (hag : Zbk (kpH H0) args = args)
    (hd : ∀ i, (H0 i).isSome = true → memI i dead = true ∨ (i ∈ L ∧ Zeb i = true ∧ (H1 i).isSome = true))
    (hnew : ∀ i, (H1 i).isSome = true → (H0 i).isSome = true ∨ h i = none) (hdn : ∀ i, memI i dead = true → (H0 i).isSome = true ∨ h i = none) : QH P h f args dead H1 r := by
  refine ⟨hc.1, fun X ι w vals s hV => ?_⟩
  let Xc : Nat → Prop := fun b => X b ∨ ∃ i c, H0 i = none ∧ ι i = some (.at b c)
  let ιc : Zah := fun j => match H0 j with
    | some _ => ι j
    | none => none
  have c1 : ∀ {j l}, ιc j = some l → (H0 j).isSome = true ∧ ι j = some l := fun {j l} e => by
    simp only [ιc] at e
    cases e1 : H0 j with
    | none => rw [e1] at e; cases e
    | some b => rw [e1] at e; exact ⟨rfl, e⟩
  have c2 : ∀ {j}, (H0 j).isSome = true → ιc j = ι j := fun {j} e => by
    simp only [ιc]
    cases e1 : H0 j with
    | none => rw [e1] at e; cases e
    | some b => rfl
  have hxc : ∀ b, Own Xc ιc b → Own X ι b := fun b hb => by
    rcases hb with (hb | ⟨i, c, _, e⟩) | ⟨i, c, e⟩
    · exact .inl hb
    · exact .inr ⟨i, c, e⟩
    · exact .inr ⟨i, c, (c1 e).2⟩
  have k0 : Keep w w (Own X ι) (Own Xc ιc) := ⟨Nat.le_refl _, fun _ _ _ => rfl, fun b _ hb => hxc b hb⟩
  have mk0 : MapOk (kpH H0) ι ιc := fun i j e l _ hi => by
    obtain ⟨rfl, h1⟩ := kpH_some e
    rw [c2 h1]; exact hi
  have sc : Sim Xc H0 ιc w := by
    refine ⟨fun j => ?_, fun j blk l e1 e2 => ?_, fun j j' b c d e1 e2 => s.inj _ _ _ _ _ (c1 e1).2 (c1 e2).2, fun j b c e hx => ?_, fun b hb => ?_⟩
    · simp only [ιc]
      cases e1 : H0 j with
      | none => rfl
      | some b => rw [s.dom j, hsub j b e1]
    · have := Zfj (own := Own X ι) mk0 blk l (s.rel j blk l (hsub j blk e1) (c1 e2).2)
      rw [hcl j blk e1] at this
      refine Zbm k0 (Sub.refl _) blk l (fun _ _ _ => rfl) this
    · rcases hx with hx | ⟨i, c', h1, h2⟩
      · exact s.apart _ _ _ (c1 e).2 hx
      · have := s.inj _ _ _ _ _ (c1 e).2 h2
        subst this
        have := (c1 e).1
        rw [h1] at this; cases this
    · rcases hb with hb | ⟨i, c, _, e⟩
      · exact s.below b hb
      · exact s.lt e
  have hV' : Vs w (Own Xc ιc) args ιc vals := by
    have := Vs_mapG (own := Own X ι) mk0 args vals hV
    rw [hag] at this
    exact Zda k0 args vals (Sub.refl _) this
  refine (hc.2 Xc ιc w vals sc hV').mono ?_
  rintro e w' ⟨v, ι', rfl, s', hv, hg⟩
  let κ : Zah := fun j => match H1 j with
    | some _ => ι' j
    | none => match H0 j with
      | some _ => none
      | none => ι j
  have κ1 : ∀ {j}, (H1 j).isSome = true → κ j = ι' j := fun {j} e => by
    simp only [κ]; cases hb : H1 j with
    | none => rw [hb] at e; cases e
    | some b => rfl
  have κ0 : ∀ {j}, H1 j = none → H0 j = none → κ j = ι j := fun {j} e e2 => by simp only [κ, e, e2]
  have κc : ∀ {j l}, κ j = some l → ((H1 j).isSome = true ∧ ι' j = some l) ∨ (H1 j = none ∧ H0 j = none ∧ ι j = some l) := fun {j l} e => by
    cases hb : H1 j with
    | some x => left; rw [κ1 (by rw [hb]; rfl)] at e; exact ⟨rfl, e⟩
    | none =>
      cases hm : H0 j with
      | some x => simp only [κ, hb, hm] at e; cases e
      | none => rw [κ0 hb hm] at e; exact .inr ⟨rfl, rfl, e⟩
  have ext : ∀ {j b c}, ι' j = some (.at b c) → (∃ i d, (H0 i).isSome = true ∧ ι i = some (.at b d)) ∨ w.heap.size ≤ b := fun {j b c} e => by
    rcases hg.goes.ext b ⟨j, c, e⟩ with ⟨i, d, h⟩ | h
    · exact .inl ⟨i, d, (c1 h).1, (c1 h).2⟩
    · exact .inr h
  have sub' : Sub ι' κ := fun j l e => by
    cases hb : H1 j with
    | none => have := s'.lost hb; rw [this] at e; cases e
    | some x => rw [κ1 (by rw [hb]; rfl)]; exact e
  have mineι : ∀ b, Mine ιc b → Mine ι b := fun b ⟨i, c, e⟩ => ⟨i, c, (c1 e).2⟩
  have ownκ : ∀ b, b < w.heap.size → Own X κ b → Own X ι b := fun b hb h => h.imp id (fun ⟨i, c, e⟩ => by
    rcases κc e with ⟨_, h2⟩ | ⟨_, _, h2⟩
    · rcases ext h2 with ⟨i', d, _, h3⟩ | h3
      · exact ⟨i', d, h3⟩
      · omega
    · exact ⟨i, c, h2⟩)
  have k : Keep w w' (Own X ι) (Own X κ) := ⟨hg.goes.fr.size, fun b hb hno => hg.goes.fr.block b hb (fun hm => hno (.inr (mineι b hm))), ownκ⟩
  have k' : Keep w' w' (Own Xc ι') (Own X κ) := ⟨Nat.le_refl _, fun _ _ _ => rfl, fun b _ h => by
    rcases h with h | ⟨i, c, e⟩
    · exact .inl (.inl h)
    · rcases κc e with ⟨_, h2⟩ | ⟨_, h1, h2⟩
      · exact .inr ⟨i, c, h2⟩
      · exact .inl (.inr ⟨i, c, h1, h2⟩)⟩
  have mk : MapOk (killL dead) ι κ := by
    intro i j e l hl hi
    obtain ⟨rfl, hm⟩ := killL_some e
    have hs : (h j).isSome = true := by rw [← s.dom j, hi]; rfl
    cases h0 : H0 j with
    | some b =>
      rcases hd j (by rw [h0]; rfl) with h1 | ⟨h1, h2, h3⟩
      · rw [hm] at h1; cases h1
      · rw [κ1 h3]
        refine hg.pin j h1 h2 l hl ?_
        rw [c2 (by rw [h0]; rfl)]; exact hi
    | none =>
      cases h1 : H1 j with
      | none => rw [κ0 h1 h0]; exact hi
      | some b =>
        rcases hnew j (by rw [h1]; rfl) with h2 | h2
        · rw [h0] at h2; cases h2
        · rw [h2] at hs; cases hs
  refine ⟨v, κ, rfl, ⟨fun j => ?_, fun j blk l e1 e2 => ?_, fun j j' b c d e1 e2 => ?_, fun j b c e => ?_, fun b hb => Nat.lt_of_lt_of_le (s.below b hb) hg.goes.fr.size⟩, fun y u' hy => ?_, Zbp k' _ _ sub' hv, ⟨hg.goes.fr.weak mineι, fun b ⟨i, c, e⟩ => ?_⟩⟩
  · simp only [bigH]
    cases hb : H1 j with
    | some x => rw [κ1 (by rw [hb]; rfl), s'.dom j, hb]
    | none =>
      cases h0 : H0 j with
      | some x =>
        have : memI j dead = true := by
          rcases hd j (by rw [h0]; rfl) with h1 | ⟨_, _, h3⟩
          · exact h1
          · rw [hb] at h3; cases h3
        simp only [κ, hb, h0, this]; rfl
      | none =>
        rw [κ0 hb h0, s.dom j]
        cases e : memI j dead with
        | false => cases h j <;> rfl
        | true =>
          rcases hdn j e with h2 | h2
          · rw [h0] at h2; cases h2
          · rw [h2]; rfl
  · simp only [bigH] at e1
    cases hb : H1 j with
    | some x =>
      rw [hb] at e1; cases e1
      rw [κ1 (by rw [hb]; rfl)] at e2
      exact Zbm k' sub' _ _ (fun _ _ _ => rfl) (s'.rel j _ l hb e2)
    | none =>
      rw [hb] at e1
      rcases κc e2 with ⟨h2, _⟩ | ⟨_, h0, e3⟩
      · rw [hb] at h2; cases h2
      · have : memI j dead = false := by
          cases e : memI j dead with
          | false => rfl
          | true =>
            rcases hdn j e with h2 | h2
            · rw [h0] at h2; cases h2
            · have := s.lost h2; rw [this] at e3; cases e3
        rw [this] at e1
        simp only [cond_false] at e1
        cases hh : h j with
        | none => rw [hh] at e1; cases e1
        | some b0 =>
          rw [hh] at e1
          simp only [Option.map_some, Option.some.injEq] at e1
          subst e1
          rw [mapKB_eq]
          refine Zfj mk b0 l (Zbm k (Sub.refl _) _ _ (fun b c hl => ?_) (s.rel j b0 l hh e3))
          subst hl
          refine hg.goes.fr.block b (s.lt e3) (fun ⟨i, d, hm⟩ => ?_)
          have := s.inj _ _ _ _ _ e3 (c1 hm).2
          subst this
          have := (c1 hm).1
          rw [h0] at this; cases this
  · have cross : ∀ {i j b c d}, (H1 i).isSome = true → ι' i = some (.at b c) → H0 j = none → ι j = some (.at b d) → False := fun {i j b c d} _ f1 g0 f2 => by
      rcases ext f1 with ⟨i', d', h1, h2⟩ | h2
      · have := s.inj _ _ _ _ _ h2 f2
        subst this
        rw [g0] at h1; cases h1
      · have := s.lt f2; omega
    rcases κc e1 with ⟨g1, f1⟩ | ⟨_, g1, f1⟩ <;> rcases κc e2 with ⟨g2, f2⟩ | ⟨_, g2, f2⟩
    · exact s'.inj _ _ _ _ _ f1 f2
    · exact (cross g1 f1 g2 f2).elim
    · exact (cross g2 f2 g1 f1).elim
    · exact s.inj _ _ _ _ _ f1 f2
  · rcases κc e with ⟨_, f1⟩ | ⟨_, _, f1⟩
    · exact fun hx => s'.apart _ _ _ f1 (.inl hx)
    · exact s.apart _ _ _ f1
  · rw [mapK_eq]
    exact V_mapG mk y u' (Zbp k y u' (Sub.refl _) hy)
  · rcases κc e with ⟨_, f1⟩ | ⟨_, _, f1⟩
    · rcases ext f1 with ⟨i', d, _, h2⟩ | h2
      · exact .inl ⟨i', d, h2⟩
      · exact .inr h2
    · exact .inl ⟨i, c, f1⟩
end Dv
namespace Dv
open Go
def oneU (id : Id) (b : Zam) : Zao := fun j => bif idEq j id then some b else none
theorem mapKB_nil (b : Zam) : mapKB [] b = b := by rw [mapKB_eq]; exact mapB_id killL_nil b
theorem big_one (h : Zao) (id : Id) (b : Zam) : bigH [] (oneU id b) h = updH h id (some b) := by
  funext j
  unfold bigH oneU updH
  cases e : idEq j id with
  | true => rfl
  | false =>
    simp only [cond_false, memI]
    cases h j with
    | none => rfl
    | some x => simp only [Option.map_some, mapKB_nil]
section
variable {P : Program} {T : Zba} {n : Nat} {X : Nat → Prop} {σ : ASt} {ι : Zah} {a : Act} {w : World}
def cpR (m : Nat) (g f : Nat → List AV) : Nat → List AV := fun i => bif Nat.blt i m then g i else f i
theorem copy_ok (hT : TOk P T) (s : St n X σ ι a w) {o : Oper} {fresh : Id} {c : Call} {t t' : Nat} {x y : Operand} {id : Id} {len k m : Nat} {f g : Nat → List AV} {oid : Option Id} {b1 s1 : Nat} {el z1 : _} {te : TI}
    (ho : o.op = .call c) (hc : c.callee = .builtin .copy) (ha : c.args = #[x, y]) (hat : c.argTypes = #[t, t']) (hx : σ.opv x = .rs id 1 0 len) (hh : σ.h id = some (.row true 1 k f))
    (ht : T t = some ⟨b1, s1, .slice el, z1⟩) (hte : T el = some te) (h1 : te.size = 1) (hsrc : srcOf σ 1 (σ.opv y) = some (true, m, g, oid)) (hso : srcObl σ (σ.opv y)) (hlk : len ≤ k) (hml : m ≤ len) :
    OpOk P n X σ ι a w o fresh (.big [] (oneU id (.row true 1 k (cpR m g f)))) (.int .i64 m) := by
  have hv := s.opv x
  rw [hx] at hv
  have run : ∀ v w', (Builtin.copy_ #[t, t'] o.type #[a.eval x, a.eval y]).run P w = .ok v w' → (execOp a.eval o).run P w = .ok (.value v) w' := by
    intro v w' h
    simp only [execOp, ho, resolve, hc, ha, hat, Sem.run_bind, Sem.run_pure, Result.andThen_ok, invoke]
    simp [builtin, h]
  obtain ⟨i, dd, zv, hok⟩ := hT t _ ht
  have hk := hok.kind
  cases dd <;> simp only [TK.rel] at hk
  rename_i el2
  cases hk
  obtain ⟨i', d', z', hok'⟩ := hT el _ hte
  have hsz : i'.size = 1 := by rw [hok'.size]; exact h1
  obtain ⟨news, hS⟩ := srcOf_ok (P := P) s hsrc hso
  have hmin : Nat.min m len = m := Nat.min_eq_left hml
  have hnl : news.length = m := by have := hS.size; omega
  have val : V w (Own X ι) (.int .i64 m) ι (goInt m) := by
    have := hS.small
    have hmx : maxL = 4294967296 := rfl
    simp only [V]
    refine ⟨rfl, ?_, ?_⟩
    · show -9223372036854775808 ≤ (m : Int); omega
    · show (m : Int) ≤ 9223372036854775807; omega
  have none_case : m = 0 → ∀ (p : Option Addr) (cap : Nat), a.eval x = .slice p len cap → OpOk P n X σ ι a w o fresh (.big [] (oneU id (.row true 1 k (cpR m g f)))) (.int .i64 m) := by
    intro hm p cap e1
    subst hm
    have hn0 : news = [] := List.eq_nil_of_length_eq_zero hnl
    subst hn0
    have hr : (Builtin.copy_ #[t, t'] o.type #[a.eval x, a.eval y]).run P w = .ok (goInt 0) w := by
      rw [e1]
      have hf := hS.first w rfl
      cases p <;> simp [Builtin.copy_, run_underlying hok.und, Go.sizeOf, typeInfo, hok'.info, hsz, hS.len, hf, storeCells]
    refine ⟨.value (goInt 0), goInt 0, w, ι, run _ _ hr, .inl rfl, ?_, fun y u' hy => by simpa [trU, mapK] using hy, val, Goes.refl X ι w⟩
    show Sim X (bigH [] (oneU id _) σ.h) ι w
    rw [big_one]
    refine s.sim.weakB hh _ (fun l hl => ?_)
    have := s.sim.rel id _ l hh hl
    have e : cpR 0 g f = f := by funext q; rfl
    rw [e]; exact this
  simp only [V] at hv
  cases hl : ι id with
  | none => simp [hl] at hv
  | some l =>
    cases l with
    | ghost => simp [hl] at hv
    | nil =>
      simp only [hl] at hv
      obtain ⟨e1, _, e2⟩ := hv
      subst e2
      exact none_case (by omega) none 0 e1
    | «at» b cc =>
      simp only [hl] at hv
      obtain ⟨p, e1, h3, _, h5⟩ := hv
      by_cases hm : m = 0
      · exact none_case hm (some p) _ e1
      have hp : p = ⟨b, 0, none⟩ := by
        rcases h5 with h5 | h5
        · omega
        · rw [h5, Nat.zero_mul]
      subst hp
      obtain ⟨arr, TT, hcell, hmc, hasz, hrow⟩ := s.sim.rel id _ _ hh hl
      rw [Nat.mul_one] at hasz
      have hst := run_storeCells_at P b 0 TT news 0 arr w hcell (by omega) hS.one
      simp only [Nat.add_zero, Nat.zero_add, List.take_zero, List.nil_append] at hst
      have hr : (Builtin.copy_ #[t, t'] o.type #[a.eval x, a.eval y]).run P w = .ok (goInt m) (w.setRow b (news ++ arr.toList.drop news.length).toArray) := by
        rw [e1]
        have hf := hS.first w rfl
        simp [Builtin.copy_, run_underlying hok.und, Go.sizeOf, typeInfo, hok'.info, hsz, hS.len, hmin, hf, hst]
      generalize hA : (news ++ arr.toList.drop news.length).toArray = arr' at hr
      have hsz2 : arr'.size = arr.size := by rw [← hA]; simp; omega
      have hget : ∀ q v, news[q]? = some v → arr'[q]? = some v := fun q v hq => by
        have hlt := (List.getElem?_eq_some_iff.1 hq).1
        rw [← hA, List.getElem?_toArray, List.getElem?_append_left hlt]; exact hq
      have hold : ∀ q, m ≤ q → arr'[q]? = arr[q]? := fun q hq => by
        rw [← hA, List.getElem?_toArray, List.getElem?_append_right (by omega), List.getElem?_drop, ← Array.getElem?_toList]; congr 1; omega
      have hnew : (w.setRow b arr').heap[b]? = some (.cells arr' TT (0, 0)) := setRow_heap w b arr arr' TT _ hcell
      obtain ⟨s', kk⟩ := s.sim.write (w' := w.setRow b arr') hl (.row true 1 k (cpR m g f)) (by simp) (fun q hq => setRow_other w b q _ hq) (fun kk => by
        refine ⟨arr', TT, hnew, hmc, by omega, fun r hr => ?_⟩
        rw [Nat.mul_one]
        unfold cpR
        by_cases hrm : r < m
        · rw [show Nat.blt r m = true from by rw [Nat.blt_eq]; exact hrm, cond_true]
          obtain ⟨g1, g2⟩ := hS.rows r hrm
          rw [Nat.mul_one] at g2
          refine ⟨g1, ?_⟩
          have g3 := Zda kk _ _ (Sub.refl _) g2
          refine Vc_row hnew g3 (fun q v hq => ?_) (fun v hv => hS.one v (List.mem_of_mem_drop (List.mem_of_mem_take hv)))
          refine hget _ _ ?_
          rw [List.getElem?_take] at hq
          split at hq
          · rw [List.getElem?_drop] at hq; exact hq
          · cases hq
        · rw [show Nat.blt r m = false from by rw [Bool.eq_false_iff]; intro h; rw [Nat.blt_eq] at h; omega, cond_false]
          obtain ⟨g1, g2⟩ := hrow r hr
          rw [Nat.mul_one] at g2
          exact ⟨g1, Zfh hcell hnew kk g2 (fun q hq => hold _ (by omega))⟩)
      refine ⟨.value (goInt m), goInt m, w.setRow b arr', ι, run _ _ hr, .inl rfl, ?_, fun y u' hy => ?_, ?_, ⟨⟨rfl, rfl, rfl, by simp, fun b' _ hno => setRow_other w b b' _ (fun e' => hno (e' ▸ ⟨id, cc, hl⟩)), fun a _ => setRow_fz hcell a⟩, fun b' hb' => .inl hb'⟩⟩
      · show Sim X (bigH [] (oneU id _) σ.h) ι _
        rw [big_one]; exact s'
      · have := Zbp kk y u' (Sub.refl _) hy
        simpa [trU, mapK] using this
      · exact Zbp kk _ _ (Sub.refl _) val
end
end Dv
namespace Dv
open Go
def LeavesV (T : Zba) (fn : Func) (L : List Id) (r : AV) (H1 : Zao) (e : Exit) (τ : ASt) : Prop := match e with
  | .ret | .normal => ∃ xs src, Zd0 T τ fn.results.toList = some xs ∧ (∀ j j' i, (H1 j).isSome = true → (H1 j').isSome = true → src j = some i → src j' = some i → j = j') ∧ (∀ j b, H1 j = some b → HOk src τ.h H1 j b) ∧ GV src τ.h H1 (retAV xs) r ∧
      (∀ i ∈ L, Zeb i = true → (H1 i).isSome = true ∧ src i = some i)
  | _ => False
theorem Za4 {P : Program} {T : Zba} (hT : TOk P T) {L : List Id} {f : FuncId} {fn : Func} {c : Code} {args : List AV} {r : AV} {H0 H1 : Zao} (hf : P.funcs[f]? = some fn) (hb : fn.body = some c) (hname : (fn.name == "runtime.NumGoroutine") = false) (hn : args.length ≤ fn.ntmps)
    (h : AWp P fn.ntmps L c (LeavesV T fn L r H1) ⟨nthAV args, H0⟩) : HG P L f H0 args r H1 := by
  refine ⟨⟨fn, hf, by rw [hb]; rfl, hname⟩, fun X ι w vals s hV => ?_⟩
  refine AWp.calls hf hb h (entryG_St s hV hn) ?_ (fun _ _ h => h)
  rintro e τ ι' a' w' hq hs hg
  have fin : (∃ xs src, Zd0 T τ fn.results.toList = some xs ∧ (∀ j j' i, (H1 j).isSome = true → (H1 j').isSome = true → src j = some i → src j' = some i → j = j') ∧ (∀ j b, H1 j = some b → HOk src τ.h H1 j b) ∧ GV src τ.h H1 (retAV xs) r ∧
      (∀ i ∈ L, Zeb i = true → (H1 i).isSome = true ∧ src i = some i)) →
      a'.defers = [] ∧ ∃ v, (results fn a'.tmps).run P w' = .ok v w' ∧ ∃ v' ι', Ending.returned v = .returned v' ∧ Sim X H1 ι' w' ∧ V w' (Own X ι') r ι' v' ∧ Zbo L X ι ι' w w' := by
    rintro ⟨xs, src, e1, e2, e3, e4, e5⟩
    obtain ⟨v, h3, h4⟩ := Zek (P := P) hT hs e1
    refine ⟨hs.defers, v, h3, v, plc src H1 ι', rfl, sim_gen hs.sim src e2 e3, e4 X ι' w' v hs.sim h4, ⟨⟨hg.goes.fr, fun b hb => hg.goes.ext b (Zfq hb)⟩, fun i hi hp l hl e => ?_⟩⟩
    obtain ⟨g1, g2⟩ := e5 i hi hp
    cases e6 : H1 i with
    | none => rw [e6] at g1; cases g1
    | some b => rw [plc_some e6 g2]; exact hg.pin i hi hp l hl e
  cases e with
  | ret => exact fin hq
  | normal => exact fin hq
  | _ => exact hq.elim
theorem HG.ren {P : Program} {L : List Id} {f : FuncId} {H0 H0' H1 : Zao} {args args' : List AV} {r : AV} (h : HG P L f H0 args r H1) (src : Id → Option Id) (inj : ∀ j j' i, (H0 j).isSome = true → (H0 j').isSome = true → src j = some i → src j' = some i → j = j')
    (hh : ∀ j b, H0 j = some b → HOk src H0' H0 j b) (ha : GVs src H0' H0 args' args) (hL : ∀ i ∈ L, Zeb i = true → (H0 i).isSome = true ∧ src i = some i) : HG P L f H0' args' r H1 := by
  refine ⟨h.1, fun X ι w vals s hV => ?_⟩
  refine (h.2 X (plc src H0 ι) w vals (sim_gen s src inj hh) (ha.Vs s hV)).mono ?_
  rintro e w' ⟨v, ι', rfl, s1, hv, hg⟩
  refine ⟨v, ι', rfl, s1, hv, ⟨⟨hg.goes.fr.weak (fun b hm => Zfq hm), fun b hm => (hg.goes.ext b hm).imp Zfq id⟩, fun i hi hp l hl e => ?_⟩⟩
  obtain ⟨g1, g2⟩ := hL i hi hp
  refine hg.pin i hi hp l hl ?_
  cases e6 : H0 i with
  | none => rw [e6] at g1; cases g1
  | some b => rw [plc_some e6 g2]; exact e
end Dv
namespace Dv
open Go
section
variable {P : Program} {n : Nat} {X : Nat → Prop} {σ : ASt} {ι : Zah} {a : Act} {w : World}
theorem run_ptr_nil (w : World) {t e : TypeId} (hu : P.underlying t = some (.pointer e)) (p : Option Addr) : (Op.equal t (.pointer p) (.pointer none)).run P w = .ok p.isNone w := by
  have h : ∀ d : Nat, (Op.equalIn (d + 1) t (.pointer p) (.pointer none)).run P w = .ok p.isNone w := fun d => by
    cases p <;> simp [Op.equalIn, run_underlying hu]
  simp only [Op.equal, Op.maxDepth]
  exact h 9999
theorem ptrNil_ok (s : St n X σ ι a w) {o : Oper} {fresh : Id} {t t' e : TypeId} {x y : Operand} {b : Bool} (ho : o.op = .binOp .eql t x y t') (hu : P.underlying t = some (.pointer e)) (hy : σ.opv y = .np) (hx : (σ.opv x = .np ∧ b = true) ∨ (∃ i j, σ.opv x = .bp i j) ∧ b = false) :
    OpOk P n X σ ι a w o fresh .none (.bool b) := by
  have h1 := s.opv x
  have h2 := s.opv y
  rw [hy] at h2
  simp only [V] at h2
  have key : ∀ p : Option Addr, a.eval x = .pointer p → p.isNone = b → OpOk P n X σ ι a w o fresh .none (.bool b) := fun p e1 e2 => by
    refine OpOk.pure s (.bool b) ?_ (by simp only [V])
    simp only [execOp, ho, e1, h2, Sem.run_bind, eqGuard_ptr, Result.andThen_ok, binOp, run_ptr_nil w hu p, Sem.run_pure, e2]
  rcases hx with ⟨e1, rfl⟩ | ⟨⟨i, j, e1⟩, rfl⟩
  · rw [e1] at h1
    simp only [V] at h1
    exact key none h1 rfl
  · rw [e1] at h1
    simp only [V] at h1
    cases hl : ι i with
    | none => rw [hl] at h1; exact h1.elim
    | some l =>
      rw [hl] at h1
      cases l with
      | nil => exact h1.elim
      | ghost => exact h1.elim
      | «at» b0 c => exact key _ h1 rfl
end
end Dv
