/- Theory: functions of the program walked on abstract states. It says nothing of a program. -/
import Derived.Test.YtoelbgjpmpoolaaGreatDvc2
import Derived.RangeFuncSeq
set_option linter.unusedVariables false
set_option linter.unusedSimpArgs false
set_option linter.unnecessarySimpa false
namespace Dv
open Go
def plc (src : Id → Option Id) (h' : Zaq) (ι : Zai) : Zai := fun j => match h' j with
 | none => none
 | some _ => match src j with
  | some i => ι i
  | none => some .nil
theorem plc_mine {src : Id → Option Id} {h' : Zaq} {ι : Zai} {b : Nat} (h : Mine (plc src h' ι) b) : Mine ι b := by
 obtain ⟨j, c, e⟩ := h
 simp only [plc] at e
 split at e
 ·cases e
 ·split at e
  ·exact ⟨_, c, e⟩
  ·cases e
theorem plc_keep {src : Id → Option Id} {h' : Zaq} {ι : Zai} {X : Nat → Prop} {w : World} : Keep w w (Own X ι) (Own X (plc src h' ι)) :=
 ⟨Nat.le_refl _, fun _ _ _ => rfl, fun _ _ h => h.imp id plc_mine⟩
def GV (src : Id → Option Id) (h h' : Zaq) (x y : AV) : Prop := ∀ (X : Nat → Prop) (ι : Zai) (w : World) (v : Value), Sim X h ι w → V w (Own X ι) x ι v → V w (Own X (plc src h' ι)) y (plc src h' ι) v
inductive GVs (src : Id → Option Id) (h h' : Zaq) : List AV → List AV → Prop where
 | nil : GVs src h h' [] []
 | cons {x y : AV} {xs ys : List AV} (h1 : GV src h h' x y) (hr : GVs src h h' xs ys) : GVs src h h' (x :: xs) (y :: ys)
section
variable {src : Id → Option Id} {h h' : Zaq}
theorem GVs.len : ∀ {xs ys : List AV}, GVs src h h' xs ys → xs.length = ys.length
 | _, _, .nil => rfl
 | _, _, .cons _ hr => by simp [hr.len]
theorem GVs.Vs {X : Nat → Prop} {ι : Zai} {w : World} (s : Sim X h ι w) : ∀ {xs ys : List AV} {vs : List Value}, GVs src h h' xs ys → Dv.Vs w (Own X ι) xs ι vs → Dv.Vs w (Own X (plc src h' ι)) ys (plc src h' ι) vs
 | _, _, _, .nil, hv => by simp only [Dv.Vs] at hv ⊢; exact hv
 | _, _, _, .cons h1 hr, hv => by
   simp only [Dv.Vs] at hv ⊢
   obtain ⟨v, r, e, hv1, hv2⟩ := hv
   exact ⟨v, r, e, h1 X ι w v s hv1, hr.Vs s hv2⟩
theorem GVs.Vc {X : Nat → Prop} {ι : Zai} {w : World} (s : Sim X h ι w) {b : Nat} : ∀ {xs ys : List AV} {o : Nat}, GVs src h h' xs ys → Dv.Vc w (Own X ι) xs ι b o → Dv.Vc w (Own X (plc src h' ι)) ys (plc src h' ι) b o
 | _, _, _, .nil, hv => by simp only [Dv.Vc]
 | _, _, _, .cons h1 hr, hv => by
   simp only [Dv.Vc] at hv ⊢
   obtain ⟨⟨v, e, h0, hv1⟩, hv2⟩ := hv
   exact ⟨⟨v, e, h0, h1 X ι w v s hv1⟩, hr.Vc s hv2⟩
theorem GV.wk {x y : AV} (hi : immD x = true) (hw : Wk x y) : GV src h h' x y := fun _ _ _ _ _ hv => hw.V (immD_V _ _ hi (Zbz plc_keep _ _ (Sub.refl _) hv))
theorem GV.imm {x : AV} (hi : immD x = true) : GV src h h' x x := GV.wk hi .refl
theorem GV.any {x : AV} : GV src h h' x .any := fun _ _ _ _ _ _ => by simp only [V]
theorem GV.eq {x y : AV} (e : x = y) (hh : GV src h h' x x) : GV src h h' x y := e ▸ hh
theorem GV.int {k : IntKind} {n m : Int} (e : n = m) : GV src h h' (.int k n) (.int k m) := by subst e; exact GV.imm rfl
theorem GV.bool {n m : Bool} (e : n = m) : GV src h h' (.bool n) (.bool m) := by subst e; exact GV.imm rfl
theorem GVs.imm : ∀ {xs : List AV}, Zb6 xs = true → GVs src h h' xs xs
 | [], _ => .nil
 | _ :: _, hi => by
   simp only [Zb6, Bool.and_eq_true] at hi
   exact .cons (GV.imm hi.1) (GVs.imm hi.2)
theorem GVs.wks : ∀ {xs ys : List AV}, Zb6 xs = true → Wks xs ys → GVs src h h' xs ys
 | _, _, _, .nil => .nil
 | _, _, hi, .cons hw hr => by
   simp only [Zb6, Bool.and_eq_true] at hi
   exact .cons (GV.wk hi.1 hw) (GVs.wks hi.2 hr)
theorem plc_some {i j : Id} {ι : Zai} {b : Zau} (hj : h' j = some b) (hs : src j = some i) : plc src h' ι j = ι i := by simp only [plc, hj, hs]
theorem GV.rs {i j : Id} {b : Zau} {sz st n st' m : Nat} (hj : h' j = some b) (hs : src j = some i) (e1 : st = st') (e2 : n = m) : GV src h h' (.rs i sz st n) (.rs j sz st' m) := by
 subst e1; subst e2
 intro X ι w v s hv
 simp only [V] at hv ⊢
 rw [plc_some hj hs]; exact hv
theorem GV.rp {i j : Id} {b : Zau} {sz st st' k : Nat} (hj : h' j = some b) (hs : src j = some i) (e1 : st = st') : GV src h h' (.rp i sz st k) (.rp j sz st' k) := by
 subst e1
 intro X ι w v s hv
 simp only [V] at hv ⊢
 rw [plc_some hj hs]; exact hv
theorem GV.bp {i j : Id} {b : Zau} {k : Nat} (hj : h' j = some b) (hs : src j = some i) : GV src h h' (.bp i k) (.bp j k) := by
 intro X ι w v s hv
 simp only [V] at hv ⊢
 rw [plc_some hj hs]; exact hv
theorem GV.mp {i j : Id} {b : Zau} (hj : h' j = some b) (hs : src j = some i) : GV src h h' (.mp i) (.mp j) := by
 intro X ι w v s hv
 simp only [V] at hv ⊢
 rw [plc_some hj hs]; exact hv
theorem GV.nil {j : Id} {b : Zau} {sz m : Nat} (hj : h' j = some b) (hs : src j = none) (hm : 0 = m) : GV src h h' .nsl (.rs j sz 0 m) := by
 subst hm
 intro X ι w v s hv
 simp only [V] at hv ⊢
 simp only [plc, hj, hs]
 exact ⟨hv, trivial, trivial⟩
theorem GV.agg {xs ys : List AV} (hs : GVs src h h' xs ys) : GV src h h' (.agg xs) (.agg ys) := fun X ι w v s hv => by
 simp only [V] at hv ⊢
 obtain ⟨a, e, h1⟩ := hv
 exact ⟨a, e, hs.Vs s h1⟩
theorem GV.tup {xs ys : List AV} (hs : GVs src h h' xs ys) : GV src h h' (.tup xs) (.tup ys) := fun X ι w v s hv => by
 simp only [V] at hv ⊢
 obtain ⟨a, e, h1⟩ := hv
 exact ⟨a, e, hs.Vs s h1⟩
theorem GV.fn {f : FuncId} {xs ys : List AV} (hs : GVs src h h' xs ys) : GV src h h' (.fn f xs) (.fn f ys) := fun X ι w v s hv => by
 simp only [V] at hv ⊢
 obtain ⟨a, e, h1⟩ := hv
 exact ⟨a, e, hs.Vs s h1⟩
theorem gone {X : Nat → Prop} {ι : Zai} {w : World} (s : Sim X h ι w) {i : Id} {b c : Nat} (hl : ι i = some (.at b c)) (hd : ∀ j, (h' j).isSome = true → src j ≠ some i) : ¬ Own X (plc src h' ι) b := by
 rintro (hx | ⟨j, d, ej⟩)
 ·exact s.apart i b c hl hx
 ·simp only [plc] at ej
  split at ej
  ·cases ej
  ·rename_i b' hb'
   split at ej
   ·rename_i i' hi'
    have := s.inj i' i b d c ej hl
    subst this
    exact hd j (by rw [hb']; rfl) hi'
   ·cases ej
theorem immVc {w : World} {own : Nat → Prop} {ι ι' : Zai} : ∀ (xs : List AV) (b o : Nat), Zb6 xs = true → Vc w own xs ι b o → Vc w own xs ι' b o
 | [], _, _, _, _ => by simp only [Vc]
 | c :: cs, b, o, hi, hv => by
   simp only [Zb6, Bool.and_eq_true] at hi
   simp only [Vc] at hv ⊢
   obtain ⟨⟨v, e, h0, h1⟩, h2⟩ := hv
   exact ⟨⟨v, e, h0, immD_V _ _ hi.1 h1⟩, immVc cs b (o + 1) hi.2 h2⟩
theorem GV.frz {i : Id} {imm : Bool} {sz st len m k : Nat} {f g : Nat → List AV} (hd : ∀ j, (h' j).isSome = true → src j ≠ some i) (hh : h i = some (.row imm sz k f)) (hk : st + len ≤ k) (hm : len = m) (hf : ∀ x, x < len → GVs src h h' (f (st + x)) (g x)) (hg : ∀ x, x < len → Zb6 (g x) = true) :
  GV src h h' (.rs i sz st len) (.sl sz m g) := by
 intro X ι w v s hv
 subst hm
 simp only [V] at hv ⊢
 cases hl : ι i with
 | none => rw [hl] at hv; exact hv.elim
 | some l =>
  have hb := s.rel i _ l hh hl
  rw [hl] at hv
  cases l with
  | ghost => exact hv.elim
  | nil =>
   simp only at hv
   obtain ⟨e, e1, e2⟩ := hv
   subst e1; subst e2
   exact ⟨none, 0, e, Nat.le_refl _, Nat.zero_le _, .inl rfl⟩
  | «at» b c =>
   simp only at hv
   obtain ⟨p, e, h1, h2, h3⟩ := hv
   refine ⟨some p, c - st, e, by omega, h2, ?_⟩
   by_cases h0 : len = 0
   ·exact .inl h0
   ·right
    obtain ⟨arr, T, e1, h4, h5, h6⟩ := hb
    have hp : p = ⟨b, st * sz, none⟩ := h3.resolve_left (by omega)
    refine ⟨b, st * sz, by rw [hp], s.lt hl, gone s hl hd, fun x hx => ?_⟩
    have h7 := h6 (st + x) (by omega)
    have h8 := (hf x hx).Vc s (Zcn imm _ _ _ h7.2)
    refine ⟨by rw [← (hf x hx).len]; exact h7.1, ?_⟩
    rw [← Nat.add_mul]
    exact immVc _ _ _ (hg x hx) h8
end
def GB (src : Id → Option Id) (h h' : Zaq) (b0 b : Zau) : Prop := ∀ (X : Nat → Prop) (ι : Zai) (w : World) (l : Loc), Sim X h ι w → BRel w (Own X ι) ι b0 l → BRel w (Own X (plc src h' ι)) (plc src h' ι) b l
section
variable {src : Id → Option Id} {h h' : Zaq}
theorem GB.row {imm imm' : Bool} {sz n n' : Nat} {f g : Nat → List AV} (hn : n' ≤ n) (hf : ∀ i, i < n' → GVs src h h' (f i) (g i)) (hg : imm' = true → ∀ i, i < n' → Zb6 (g i) = true) : GB src h h' (.row imm sz n f) (.row imm' sz n' g) := by
 intro X ι w l s hr
 cases l with
 | ghost => trivial
 | nil => simp only [BRel] at hr ⊢; omega
 | «at» b c =>
  simp only [BRel] at hr ⊢
  obtain ⟨arr, T, h1, h2, h3, h4⟩ := hr
  refine ⟨arr, T, h1, by omega, h3, fun i hi => ?_⟩
  have h5 := h4 i (by omega)
  have h6 := (hf i hi).Vc s (Zcn imm _ _ _ h5.2)
  refine ⟨by rw [← (hf i hi).len]; exact h5.1, ?_⟩
  cases imm' with
  | true => exact immVc _ _ _ (hg rfl i hi) h6
  | false => exact h6
theorem GB.rowI {imm imm' : Bool} {sz n n' : Nat} {f g : Nat → List AV} (hn : n' ≤ n) (hf : ∀ i, i < n' → Zb6 (f i) = true ∧ f i = g i) : GB src h h' (.row imm sz n f) (.row imm' sz n' g) :=
 GB.row hn (fun i hi => by rw [← (hf i hi).2]; exact GVs.imm (hf i hi).1) (fun _ i hi => by rw [← (hf i hi).2]; exact (hf i hi).1)
end
theorem Weak.gen {n : Nat} {L : List Id} {σ τ : ASt} (src : Id → Option Id) (inj : ∀ j j' i, (τ.h j).isSome = true → (τ.h j').isSome = true → src j = some i → src j' = some i → j = j')
  (hh : ∀ j b, τ.h j = some b → match src j with | some i => ∃ b0, σ.h i = some b0 ∧ GB src σ.h τ.h b0 b | none => ∃ imm sz g, b = .row imm sz 0 g)
  (ht : ∀ t, GV src σ.h τ.h (σ.tm t) (τ.tm t)) (hL : ∀ i ∈ L, pinId i = true → (τ.h i).isSome = true ∧ src i = some i) : Weak n L σ τ := by
 intro X ι a w s
 refine ⟨plc src τ.h ι, ⟨⟨fun j => ?_, fun j blk l e1 e2 => ?_, fun j j' b c d e1 e2 => ?_, fun j b c e => ?_, s.sim.below⟩, s.defers, s.size, fun t => ht t X ι w _ s.sim (s.tm t)⟩, ⟨⟨Fr.refl _ _, fun b h => .inl (plc_mine h)⟩, fun i hi hp l _ e => ?_⟩⟩
 ·simp only [plc]
  cases e : τ.h j with
  | none => rfl
  | some b =>
   have := hh j b e
   cases hs : src j with
   | none => rfl
   | some i =>
    rw [hs] at this
    obtain ⟨b0, h1, _⟩ := this
    simp only [s.sim.dom i, h1]; rfl
 ·have := hh j blk e1
  simp only [plc, e1] at e2
  cases hs : src j with
  | none =>
   rw [hs] at this e2
   obtain ⟨imm, sz, g, rfl⟩ := this
   cases e2; rfl
  | some i =>
   rw [hs] at this e2
   obtain ⟨b0, h1, h2⟩ := this
   exact h2 X ι w l s.sim (s.sim.rel i b0 l h1 e2)
 ·simp only [plc] at e1 e2
  split at e1
  ·cases e1
  ·rename_i x hx
   split at e2
   ·cases e2
   ·rename_i y hy
    split at e1
    ·rename_i i hi
     split at e2
     ·rename_i i' hi'
      have := s.sim.inj i i' b c d e1 e2
      subst this
      exact inj j j' i (by rw [hx]; rfl) (by rw [hy]; rfl) hi hi'
     ·cases e2
    ·cases e1
 ·simp only [plc] at e
  split at e
  ·cases e
  ·split at e
   ·exact s.sim.apart _ b c e
   ·cases e
 ·obtain ⟨h1, h2⟩ := hL i hi hp
  cases hb : τ.h i with
  | none => rw [hb] at h1; cases h1
  | some b => simp only [plc, hb, h2]; exact e
def famC (k : Nat) (g : Nat → Nat → Option Zau) : Zaq := fun j => bif Nat.beq j.1 k then g j.2.1 j.2.2 else none
def orH (a b : Zaq) : Zaq := fun j => match a j with
 | some x => some x
 | none => b j
def noH : Zaq := fun _ => none
def mkF (tl : List (Nat × AV)) (hl : List (Id × Zau)) (F : Zaq) : ASt := ⟨lookT tl, orH (Zbv hl) F⟩
def srcL : List (Id × Option Id) → Id → Option Id
 | [], j => some j
 | (c, o) :: r, j => bif idEq c j then o else srcL r j
theorem srcL_spec : ∀ (S : List (Id × Option Id)) (j : Id), (∃ o, (j, o) ∈ S ∧ srcL S j = o) ∨ (j ∉ S.map (·.1) ∧ srcL S j = some j)
 | [], j => .inr ⟨by simp, rfl⟩
 | (c, o) :: r, j => by
   simp only [srcL]
   cases e : idEq c j with
   | true => have := Zbe.1 e; subst this; exact .inl ⟨o, by simp, rfl⟩
   | false =>
    have hne := Zbq.1 e
    rcases srcL_spec r j with ⟨o', h1, h2⟩ | ⟨h1, h2⟩
    ·exact .inl ⟨o', by simp [h1], h2⟩
    ·exact .inr ⟨by simp only [List.map_cons, List.mem_cons, not_or]; exact ⟨Ne.symm hne, h1⟩, h2⟩
def tgts : List (Id × Option Id) → List Id
 | [] => []
 | (_, some i) :: r => i :: tgts r
 | (_, none) :: r => tgts r
theorem mem_tgts {S : List (Id × Option Id)} {j i : Id} (h : (j, some i) ∈ S) : i ∈ tgts S := by
 induction S with
 | nil => cases h
 | cons p r ih =>
  obtain ⟨c, o⟩ := p
  rcases List.mem_cons.1 h with e | e
  ·cases e; simp [tgts]
  ·cases o with
   | none => simp only [tgts]; exact ih e
   | some i' => simp only [tgts]; exact List.mem_cons_of_mem _ (ih e)
theorem tgts_one {S : List (Id × Option Id)} (hn : Zcz (tgts S) = true) {j j' i : Id} (h : (j, some i) ∈ S) (h' : (j', some i) ∈ S) : j = j' := by
 induction S with
 | nil => cases h
 | cons p r ih =>
  obtain ⟨c, o⟩ := p
  cases o with
  | none =>
   simp only [tgts] at hn
   rcases List.mem_cons.1 h with e | e
   ·cases e
   ·rcases List.mem_cons.1 h' with e' | e'
    ·cases e'
    ·exact ih hn e e'
  | some i0 =>
   simp only [tgts, Zcz, Bool.and_eq_true] at hn
   rcases List.mem_cons.1 h with e | e
   ·cases e
    rcases List.mem_cons.1 h' with e' | e'
    ·cases e'; rfl
    ·exact absurd (mem_tgts e') (Zb7 hn.1)
   ·rcases List.mem_cons.1 h' with e' | e'
    ·cases e'; exact absurd (mem_tgts e) (Zb7 hn.1)
    ·exact ih hn.2 e e'
theorem srcL_inj {S : List (Id × Option Id)} {h' : Zaq} (hn : Zcz (tgts S) = true) (hf : ∀ i ∈ tgts S, h' i = none ∨ i ∈ S.map (·.1)) (j j' i : Id) (e1 : (h' j).isSome = true) (e2 : (h' j').isSome = true) (h1 : srcL S j = some i) (h2 : srcL S j' = some i) : j = j' := by
 rcases srcL_spec S j with ⟨o, a, b⟩ | ⟨a, b⟩
 ·rcases srcL_spec S j' with ⟨o', a', b'⟩ | ⟨a', b'⟩
  ·rw [h1] at b; rw [h2] at b'; subst b; subst b'
   exact tgts_one hn a a'
  ·rw [h1] at b; subst b
   rw [h2] at b'; cases b'
   rcases hf _ (mem_tgts a) with h | h
   ·rw [h] at e2; cases e2
   ·exact absurd h a'
 ·rcases srcL_spec S j' with ⟨o', a', b'⟩ | ⟨a', b'⟩
  ·rw [h2] at b'; subst b'
   rw [h1] at b; cases b
   rcases hf _ (mem_tgts a') with h | h
   ·rw [h] at e1; cases e1
   ·exact absurd h a
  ·rw [h1] at b; rw [h2] at b'; cases b; cases b'; rfl
inductive HLs (src : Id → Option Id) (h h' : Zaq) : List (Id × Zau) → Prop where
 | nil : HLs src h h' []
 | old {j i : Id} {b0 b : Zau} {r : List (Id × Zau)} (hs : src j = some i) (hi : h i = some b0) (hb : GB src h h' b0 b) (hr : HLs src h h' r) : HLs src h h' ((j, b) :: r)
 | new {j : Id} {imm : Bool} {sz : Nat} {g : Nat → List AV} {r : List (Id × Zau)} (hs : src j = none) (hr : HLs src h h' r) : HLs src h h' ((j, .row imm sz 0 g) :: r)
def HOk (src : Id → Option Id) (h h' : Zaq) (j : Id) (b : Zau) : Prop := match src j with
 | some i => ∃ b0, h i = some b0 ∧ GB src h h' b0 b
 | none => ∃ imm sz g, b = .row imm sz 0 g
theorem HLs.spec {src : Id → Option Id} {h h' : Zaq} {j : Id} {b : Zau} : ∀ {l : List (Id × Zau)}, HLs src h h' l → Zbv l j = some b → HOk src h h' j b
 | _, .nil, e => by cases e
 | _, .old (j := k) hs hi hb hr, e => by
   simp only [Zbv] at e
   cases e1 : idEq k j with
   | true => have := Zbe.1 e1; subst this; rw [e1] at e; cases e; unfold HOk; rw [hs]; exact ⟨_, hi, hb⟩
   | false => rw [e1] at e; exact hr.spec e
 | _, .new (j := k) hs hr, e => by
   simp only [Zbv] at e
   cases e1 : idEq k j with
   | true => have := Zbe.1 e1; subst this; rw [e1] at e; cases e; unfold HOk; rw [hs]; exact ⟨_, _, _, rfl⟩
   | false => rw [e1] at e; exact hr.spec e
inductive TLg (src : Id → Option Id) (h h' : Zaq) (tm : Nat → AV) : List (Nat × AV) → Prop where
 | nil : TLg src h h' tm []
 | cons {t : Nat} {y : AV} {r : List (Nat × AV)} (hv : GV src h h' (tm t) y) (hr : TLg src h h' tm r) : TLg src h h' tm ((t, y) :: r)
theorem TLg.spec {src : Id → Option Id} {h h' : Zaq} {tm : Nat → AV} : ∀ {l : List (Nat × AV)} (t : Nat), TLg src h h' tm l → GV src h h' (tm t) (lookT l t)
 | [], _, _ => GV.any
 | (u, y) :: r, t, .cons hv hr => by
   simp only [lookT]
   cases e : Nat.beq u t with
   | true => have := Nat.eq_of_beq_eq_true e; subst this; exact hv
   | false => exact hr.spec t
theorem Weak.fam {n : Nat} {L : List Id} {σ : ASt} {tl : List (Nat × AV)} {hl : List (Id × Zau)} {F : Zaq} (S : List (Id × Option Id)) (hn : Zcz (tgts S) = true) (hf : ∀ i ∈ tgts S, orH (Zbv hl) F i = none ∨ i ∈ S.map (·.1))
  (ht : TLg (srcL S) σ.h (orH (Zbv hl) F) σ.tm tl) (hh : HLs (srcL S) σ.h (orH (Zbv hl) F) hl) (hF : ∀ j b, F j = some b → HOk (srcL S) σ.h (orH (Zbv hl) F) j b)
  (hL : ∀ i ∈ L, pinId i = true → (orH (Zbv hl) F i).isSome = true ∧ srcL S i = some i) : Weak n L σ (mkF tl hl F) := by
 refine Weak.gen (τ := mkF tl hl F) (srcL S) (srcL_inj hn hf) (fun j b e => ?_) (fun t => ht.spec t) hL
 have e' : orH (Zbv hl) F j = some b := e
 have : HOk (srcL S) σ.h (orH (Zbv hl) F) j b := by
  unfold orH at e'
  cases e1 : Zbv hl j with
  | some x => rw [e1] at e'; cases e'; exact hh.spec e1
  | none => rw [e1] at e'; exact hF j b e'
 exact this
def HF (P : Program) (f : FuncId) (args : List AV) (r : AV) (h1 : Zaq) : Prop :=
 Zeb P f ∧ ∀ (X : Nat → Prop) (w : World) (vals : List Value), (∀ b, X b → b < w.heap.size) → Vs w X args ι0 vals →
  Calls P f vals.toArray w fun e w' => ∃ v ι', e = .returned v ∧ Fr (fun _ => False) w w' ∧ Sim X h1 ι' w' ∧ (∀ b, Mine ι' b → w.heap.size ≤ b) ∧ V w' (Own X ι') r ι' v
def LeavesF (T : Zbc) (fn : Func) (r : AV) (h1 : Zaq) (e : Exit) (τ : ASt) : Prop := match e with
 | .ret | .normal => ∃ xs src, Zex T τ fn.results.toList = some xs ∧ (∀ j j' i, (h1 j).isSome = true → (h1 j').isSome = true → src j = some i → src j' = some i → j = j') ∧ (∀ j b, h1 j = some b → HOk src τ.h h1 j b) ∧ GV src τ.h h1 (retAV xs) r
 | _ => False
theorem sim_gen {X : Nat → Prop} {h h' : Zaq} {ι : Zai} {w : World} (s : Sim X h ι w) (src : Id → Option Id) (inj : ∀ j j' i, (h' j).isSome = true → (h' j').isSome = true → src j = some i → src j' = some i → j = j')
  (hh : ∀ j b, h' j = some b → HOk src h h' j b) : Sim X h' (plc src h' ι) w := by
 have st : St 0 X ⟨fun _ => .any, h⟩ ι { tmps := #[], defers := [] } w := ⟨s, rfl, rfl, fun t => by simp only [V]⟩
 obtain ⟨_, s', _⟩ : ∃ ι', St 0 X ⟨fun _ => .any, h'⟩ ι' { tmps := #[], defers := [] } w ∧ ι' = plc src h' ι := by
  refine ⟨_, ⟨?_, rfl, rfl, fun t => by simp only [V]⟩, rfl⟩
  refine ⟨fun j => ?_, fun j blk l e1 e2 => ?_, fun j j' b c d e1 e2 => ?_, fun j b c e => ?_, s.below⟩
  ·simp only [plc]
   cases e : h' j with
   | none => rfl
   | some b =>
    have := hh j b e
    unfold HOk at this
    cases hs : src j with
    | none => rfl
    | some i =>
     rw [hs] at this
     obtain ⟨b0, h1, _⟩ := this
     simp only [s.dom i, h1]; rfl
  ·have := hh j blk e1
   unfold HOk at this
   simp only [plc] at e2
   have e1' : h' j = some blk := e1
   rw [e1'] at e2
   cases hs : src j with
   | none =>
    rw [hs] at this e2
    obtain ⟨imm, sz, g, rfl⟩ := this
    cases e2; rfl
   | some i =>
    rw [hs] at this e2
    obtain ⟨b0, h1, h2⟩ := this
    exact h2 X ι w l s (s.rel i b0 l h1 e2)
  ·simp only [plc] at e1 e2
   split at e1
   ·cases e1
   ·rename_i x hx
    split at e2
    ·cases e2
    ·rename_i y hy
     split at e1
     ·rename_i i hi
      split at e2
      ·rename_i i' hi'
       have := s.inj i i' b c d e1 e2
       subst this
       exact inj j j' i (by rw [hx]; rfl) (by rw [hy]; rfl) hi hi'
      ·cases e2
     ·cases e1
  ·simp only [plc] at e
   split at e
   ·cases e
   ·split at e
    ·exact s.apart _ b c e
    ·cases e
 subst_vars
 exact s'.sim
theorem HF_intro {P : Program} {T : Zbc} (hT : TOk P T) {f : FuncId} {fn : Func} {c : Code} {args : List AV} {r : AV} {h1 : Zaq} (hf : P.funcs[f]? = some fn) (hb : fn.body = some c) (hname : (fn.name == "runtime.NumGoroutine") = false) (hn : args.length ≤ fn.ntmps)
  (h : AWp P fn.ntmps [] c (LeavesF T fn r h1) (entry args)) : HF P f args r h1 := by
 refine ⟨⟨fn, hf, by rw [hb]; rfl, hname⟩, fun X w vals hX hV => ?_⟩
 refine AWp.calls hf hb h (entry_St (n := fn.ntmps) hX hV hn) ?_ (fun _ _ h => h)
 rintro e τ ι' a' w' hq hs hg
 have hfr : Fr (fun _ => False) w w' := hg.goes.fr.weak (fun x hx => by
  obtain ⟨i, c, e⟩ := hx
  cases e)
 have hnew : ∀ b, Mine ι' b → w.heap.size ≤ b := fun b hb => by
  rcases hg.goes.ext b hb with ⟨i, d, e⟩ | h
  ·cases e
  ·exact h
 have fin : (∃ xs src, Zex T τ fn.results.toList = some xs ∧ (∀ j j' i, (h1 j).isSome = true → (h1 j').isSome = true → src j = some i → src j' = some i → j = j') ∧ (∀ j b, h1 j = some b → HOk src τ.h h1 j b) ∧ GV src τ.h h1 (retAV xs) r) →
   a'.defers = [] ∧ ∃ v, (results fn a'.tmps).run P w' = .ok v w' ∧ ∃ v' ι', Ending.returned v = .returned v' ∧ Fr (fun _ => False) w w' ∧ Sim X h1 ι' w' ∧ (∀ b, Mine ι' b → w.heap.size ≤ b) ∧ V w' (Own X ι') r ι' v' := by
  rintro ⟨xs, src, e1, e2, e3, e4⟩
  obtain ⟨v, h3, h4⟩ := results_ok (P := P) hT hs e1
  exact ⟨hs.defers, v, h3, v, plc src h1 ι', rfl, hfr, sim_gen hs.sim src e2 e3, fun b hb => hnew b (plc_mine hb), e4 X ι' w' v hs.sim h4⟩
 cases e with
 | ret => exact fin hq
 | normal => exact fin hq
 | _ => exact hq.elim
theorem HF.fc {P : Program} {f : FuncId} {args : List AV} {r y : AV} {h1 : Zaq} (h : HF P f args r h1) (hr : Rel h1 r y) : FC P f args y := by
 refine ⟨h.1, fun X w vals hX hV => ?_⟩
 refine (h.2 X w vals hX hV).mono ?_
 rintro e w' ⟨v, ι', rfl, h2, h3, _, h5⟩
 exact ⟨v, rfl, h2, hr X ι' w' v h3 h5⟩
theorem QH.ofF {P : Program} {h : Zaq} {f : FuncId} {args : List AV} {r : AV} {h1 : Zaq} (hc : HF P f args r h1) (hi : Zb6 args = true) (hfree : ∀ i, (h1 i).isSome = true → h i = none) : QH P h f args [] h1 r := by
 refine ⟨hc.1, fun X ι w vals s hV => ?_⟩
 refine (hc.2 (Own X ι) w vals (fun b hb => s.own_lt hb) (immD_Vs _ _ hi hV)).mono ?_
 rintro e w' ⟨v, ι', rfl, hfr, s', hnew, hv⟩
 let κ : Zai := fun j => match h1 j with
  | some _ => ι' j
  | none => ι j
 have κ1 : ∀ {j}, (h1 j).isSome = true → κ j = ι' j := fun {j} e => by
  simp only [κ]; cases hb : h1 j with
  | none => rw [hb] at e; cases e
  | some b => rfl
 have κ0 : ∀ {j}, h1 j = none → κ j = ι j := fun {j} e => by simp only [κ, e]
 have hmine : ∀ b, Mine κ b → Mine ι b ∨ Mine ι' b := by
  rintro b ⟨j, c, e⟩
  cases hb : h1 j with
  | none => rw [κ0 hb] at e; exact .inl ⟨j, c, e⟩
  | some x => rw [κ1 (by rw [hb]; rfl)] at e; exact .inr ⟨j, c, e⟩
 have sub : Sub ι κ := fun j l e => by
  cases hb : h1 j with
  | none => rw [κ0 hb]; exact e
  | some x =>
   have := s.lost (hfree j (by rw [hb]; rfl))
   rw [this] at e; cases e
 have sub' : Sub ι' κ := fun j l e => by
  cases hb : h1 j with
  | none => have := s'.lost hb; rw [this] at e; cases e
  | some x => rw [κ1 (by rw [hb]; rfl)]; exact e
 have k : Keep w w' (Own X ι) (Own X κ) := ⟨hfr.size, fun b hb _ => hfr.block b hb (fun h => h), fun b hb h => h.imp id (fun hm => (hmine b hm).resolve_right (fun h2 => by have := hnew b h2; omega))⟩
 have k' : Keep w' w' (Own (Own X ι) ι') (Own X κ) := ⟨Nat.le_refl _, fun _ _ _ => rfl, fun b _ h => by
  rcases h with h | h
  ·exact .inl (.inl h)
  ·rcases hmine b h with h2 | h2
   ·exact .inl (.inr h2)
   ·exact .inr h2⟩
 refine ⟨v, κ, rfl, ⟨fun j => ?_, fun j blk l e1 e2 => ?_, fun j j' b c d e1 e2 => ?_, fun j b c e => ?_, fun b hb => Nat.lt_of_lt_of_le (s.below b hb) hfr.size⟩, fun y u' hy => Zbz k _ _ sub hy, Zbz k' _ _ sub' hv, ⟨hfr.weak (fun _ h => h.elim), fun b hb => (hmine b hb).imp id (hnew b)⟩⟩
 ·simp only [bigH]
  cases hb : h1 j with
  | none => rw [κ0 hb, s.dom j]; simp only [memI, cond_false]; cases h j <;> rfl
  | some x => rw [κ1 (by rw [hb]; rfl), s'.dom j, hb]
 ·simp only [bigH] at e1
  cases hb : h1 j with
  | some x =>
   rw [hb] at e1; cases e1
   rw [κ1 (by rw [hb]; rfl)] at e2
   exact Zb8 k' sub' _ _ (fun _ _ _ => rfl) (s'.rel j _ l hb e2)
  | none =>
   rw [hb] at e1
   rw [κ0 hb] at e2
   simp only [memI, cond_false] at e1
   cases hh : h j with
   | none => rw [hh] at e1; cases e1
   | some b0 =>
    rw [hh] at e1
    simp only [Option.map_some, Option.some.injEq] at e1
    subst e1
    refine Zb8 k sub _ _ (fun b c hl => ?_) (s.rel j b0 l hh e2)
    subst hl
    exact hfr.block b (s.lt e2) (fun h => h)
 ·cases hb : h1 j with
  | none =>
   rw [κ0 hb] at e1
   cases hb' : h1 j' with
   | none => rw [κ0 hb'] at e2; exact s.inj _ _ _ _ _ e1 e2
   | some x =>
    rw [κ1 (by rw [hb']; rfl)] at e2
    have := s.lt e1; have := hnew b ⟨_, _, e2⟩; omega
  | some x =>
   rw [κ1 (by rw [hb]; rfl)] at e1
   cases hb' : h1 j' with
   | none =>
    rw [κ0 hb'] at e2
    have := s.lt e2; have := hnew b ⟨_, _, e1⟩; omega
   | some x' => rw [κ1 (by rw [hb']; rfl)] at e2; exact s'.inj _ _ _ _ _ e1 e2
 ·cases hb : h1 j with
  | none => rw [κ0 hb] at e; exact s.apart _ _ _ e
  | some x => rw [κ1 (by rw [hb]; rfl)] at e; exact fun hx => s'.apart _ _ _ e (.inl hx)
def notSrc (S : List (Id × Option Id)) (i : Id) : List (Id × Zau) → Bool
 | [] => true
 | (j, _) :: r => (match srcL S j with | some i' => !(idEq i' i) | none => true) && notSrc S i r
theorem hd_of {S : List (Id × Option Id)} {F : Zaq} {i : Id} : ∀ {hl : List (Id × Zau)}, notSrc S i hl = true → (∀ j, (F j).isSome = true → srcL S j ≠ some i) → ∀ j, (orH (Zbv hl) F j).isSome = true → srcL S j ≠ some i := by
 intro hl hn hF j hj
 unfold orH at hj
 cases e : Zbv hl j with
 | none => rw [e] at hj; exact hF j hj
 | some b =>
  clear hj
  induction hl with
  | nil => cases e
  | cons p r ih =>
   obtain ⟨k, c⟩ := p
   simp only [notSrc, Bool.and_eq_true] at hn
   simp only [Zbv] at e
   cases e1 : idEq k j with
   | true =>
    have := Zbe.1 e1; subst this
    intro e2
    rw [e2] at hn
    simp [Zbe.2 rfl] at hn
   | false => rw [e1] at e; exact ih hn.2 e
theorem hd_no {S : List (Id × Option Id)} {i : Id} {hl : List (Id × Zau)} (hn : notSrc S i hl = true) : ∀ j, (orH (Zbv hl) noH j).isSome = true → srcL S j ≠ some i := hd_of hn (fun _ h => by cases h)
theorem noF {P : Id → Zau → Prop} : ∀ j b, noH j = some b → P j b := fun _ _ h => by cases h
theorem lt0 {P : Nat → Prop} : ∀ x, x < 0 → P x := fun x h => absurd h (Nat.not_lt_zero x)
theorem ltS {P : Nat → Prop} {n : Nat} (h0 : P 0) (h : ∀ x, x < n → P (x + 1)) : ∀ x, x < n + 1 → P x := fun x hx => match x, hx with
 | 0, _ => h0
 | x + 1, hx => h x (Nat.lt_of_succ_lt_succ hx)
theorem GB.one {src : Id → Option Id} {h h' : Zaq} {imm imm' : Bool} {sz : Nat} {f g : Nat → List AV} (hf : GVs src h h' (f 0) (g 0)) (hg : imm' = true → Zb6 (g 0) = true) : GB src h h' (.row imm sz 1 f) (.row imm' sz 1 g) :=
 GB.row (Nat.le_refl _) (ltS hf lt0) (fun e => ltS (hg e) lt0)
end Dv
namespace Dv
open Go
theorem GVs.upd {src : Id → Option Id} {h h' : Zaq} {F : Nat → List AV} {K x : Nat} {C ys : List AV} (h1 : x = K → GVs src h h' C ys) (h2 : x ≠ K → GVs src h h' (F x) ys) : GVs src h h' (updR F K C x) ys := by
 unfold updR
 cases e : Nat.beq K x with
 | true => exact h1 (Nat.eq_of_beq_eq_true e).symm
 | false => exact h2 (fun h => by subst h; simp at e)
theorem GVs.eqI {src : Id → Option Id} {h h' : Zaq} {xs ys : List AV} (hi : Zb6 ys = true) (e : xs = ys) : GVs src h h' xs ys := by subst e; exact GVs.imm hi
end Dv
namespace Dv
open Go
theorem fAV {x y : AV} {k : AV → Prop} (e : x = y) (h : Zcq y k) : Zcq x k := e ▸ h
theorem orH_some {a b : Zaq} {j : Id} {x : Zau} (h : orH a b j = some x) : a j = some x ∨ (a j = none ∧ b j = some x) := by
 unfold orH at h
 cases e : a j with
 | none => rw [e] at h; exact .inr ⟨rfl, h⟩
 | some y => rw [e] at h; exact .inl h
theorem famC_some {k : Nat} {g : Nat → Nat → Option Zau} {j : Id} {x : Zau} (h : famC k g j = some x) : ∃ p q, j = (k, p, q) ∧ g p q = some x := by
 obtain ⟨a, p, q⟩ := j
 unfold famC at h
 simp only at h
 cases e : Nat.beq a k with
 | false => rw [e] at h; cases h
 | true => have := Nat.eq_of_beq_eq_true e; subst this; rw [e] at h; exact ⟨p, q, rfl, h⟩
theorem HOk.mk {src : Id → Option Id} {h h' : Zaq} {j i : Id} {b0 b : Zau} (hs : src j = some i) (hi : h i = some b0) (hb : GB src h h' b0 b) : HOk src h h' j b := by
 unfold HOk; rw [hs]; exact ⟨b0, hi, hb⟩
end Dv
namespace Dv
open Go
theorem GV.cc {src : Id → Option Id} {h h' : Zaq} {x y x' y' : AV} (ex : x = x') (ey : y = y') (hv : GV src h h' x' y') : GV src h h' x y := ex ▸ ey ▸ hv
end Dv
namespace Dv
open Go
theorem HF.weak {P : Program} {f : FuncId} {args : List AV} {r r' : AV} {h1 h2 : Zaq} (h : HF P f args r h1) (src : Id → Option Id) (inj : ∀ j j' i, (h2 j).isSome = true → (h2 j').isSome = true → src j = some i → src j' = some i → j = j')
  (hh : ∀ j b, h2 j = some b → HOk src h1 h2 j b) (hv : GV src h1 h2 r r') : HF P f args r' h2 := by
 refine ⟨h.1, fun X w vals hX hV => ?_⟩
 refine (h.2 X w vals hX hV).mono ?_
 rintro e w' ⟨v, ι', rfl, a1, a2, a3, a4⟩
 exact ⟨v, plc src h2 ι', rfl, a1, sim_gen a2 src inj hh, fun b hb => a3 b (plc_mine hb), hv X ι' w' v a2 a4⟩
theorem some_inj (j j' i : Id) (h1 : some j = some i) (h2 : some j' = some i) : j = j' := by cases h1; cases h2; rfl
end Dv
namespace Dv
open Go
section
variable {P : Program} {T : Zbc} {n : Nat} {L : List Id} {X : Nat → Prop} {all : List Oper} {σ : ASt} {ι : Zai} {a : Act} {w : World}
theorem max_ok (s : St n X σ ι a w) {o : Oper} {c : Call} {x y : Operand} {k : IntKind} {p q : Int}
  (ho : o.op = .call c) (hc : c.callee = .builtin .max) (ha : c.args = #[x, y]) (hx : σ.opv x = .int k p) (hy : σ.opv y = .int k q) : OpOk P n X σ ι a w o (Zaw o) .none (.int k (max p q)) := by
 have h1 := s.opv x
 have h2 := s.opv y
 rw [hx] at h1
 rw [hy] at h2
 simp only [V] at h1 h2
 refine OpOk.pure s (.int k (max p q)) ?_ ?_
 ·simp only [execOp, ho, resolve, hc, ha, Sem.run_bind, Sem.run_pure, Result.andThen_ok, invoke]
  simp only [builtin, Builtin.max_]
  have e : (if q > p then q else p) = max p q := by rw [Int.max_def]; split <;> split <;> omega
  simp [h1.1, h2.1, Builtin.max2, e]
 ·simp only [V]
  refine ⟨trivial, ?_⟩
  rw [Int.max_def]; split <;> omega
theorem AWp_handK (hT : TOk P T) {id : Nat} {ops : Array Oper} {Q : Exit → ASt → Prop} {σ : ASt} (pre : List Oper) (o : Oper) (r : List Oper) (e : ops.toList = pre ++ o :: r) (hr : regOk n ops.toList = true) (hg : Zas ops.toList = []) (hog : o.guard = none)
  {K : ASt → Prop} (hK0 : ∀ τ, K τ → ∀ (X : Nat → Prop) ι a w, St n X τ ι a w → ∃ e : Eff, OpOk P n X τ ι a w o (Zaw o) e.up e.val ∧ Hand P T ops.toList pre.length o r τ (Q .normal) e)
  (h : FOps P T ops.toList (Zas ops.toList) 0 pre σ.tm σ.h K) : AWp P n L (.region id ops false) Q σ := by
 refine AWp.region hr (fun X ι a w s => ?_)
 have hR := Zed hr
 have hlen : ops.size = pre.length + (1 + r.length) := by
  have := congrArg List.length e; simp at this; omega
 have hrange : List.range ops.size = List.range' 0 pre.length ++ (pre.length :: List.range' (pre.length + 1) r.length) := by
  rw [List.range_eq_range', hlen, ← List.range'_append (s := 0) (m := pre.length) (n := 1 + r.length) (step := 1), Nat.add_comm 1 r.length, List.range'_succ]
  simp
 rw [hrange]
 have key := FPre_sound (L := L) (all := ops.toList) (Q := fun e a' w' => e = .normal ∧ ∃ τ ι', Q .normal τ ∧ St n X τ ι' a' w' ∧ Zbo L X ι ι' w w') (rest := pre.length :: List.range' (pre.length + 1) r.length) (ι0 := ι) (w0 := w) hT hR hg ?_ pre 0 σ ι a w
  (fun j hj => by rw [e, Nat.zero_add, List.getElem?_append_left hj]) h (by simpa using StG.of_St (ops := ops) s) (Zbo.refl L X ι w)
 ·simpa using key
 intro τ ι' a' w' hK hs hgo
 rw [wpOps_cons]
 have ho : ops.toList[pre.length]? = some o := by rw [e]; simp
 have ho' : ops.toList.toArray[pre.length]? = some o := by simpa using ho
 obtain ⟨ef, ⟨rr, v, w1, ι1, h1, h2, h3, h4, h5, h6⟩, hu, hK'⟩ := hK0 τ hK X ι' a' w' hs
 have hw : Region.wanted o (yielded ops.toList.toArray a'.tmps) = true := by simp [Region.wanted, hog]
 unfold wpOp
 rw [ho']
 simp only [hw, if_true]
 left
 have hS := StG.of_St (ops := ops.toList.toArray) hs
 have go : ∀ val, V w1 (Own X ι1) ef.val ι1 val → wpOps P ops.toList.toArray (fun e a' w' => e = .normal ∧ ∃ τ ι', Q .normal τ ∧ St n X τ ι' a' w' ∧ Zbo L X ι ι' w w') (List.range' (pre.length + 1) r.length) (a'.put o.dst val) w1 := by
  intro val hv
  have hh : Sim X (upS (Zaw o) ef.up τ).h ι1 w1 := h3
  refine FOps_sound (L := L) (K := Q .normal) (Q := fun e a' w' => e = .normal ∧ ∃ τ ι', Q .normal τ ∧ St n X τ ι' a' w' ∧ Zbo L X ι ι' w w') (ι0 := ι) (w0 := w) hT hR (fun τ ι' a' w' h1 h2 h3 => ⟨rfl, τ, ι', h1, h2, h3⟩) r (pre.length + 1) _ ι1 _ w1 (fun j => ?_) hK'
   (app_StG hR hS ho hu hh h4 (.inl ⟨hw, hv⟩)) (hgo.trans ⟨h6, pin_of hu h4⟩)
  rw [e, List.getElem?_append_right (by omega)]
  rw [show pre.length + 1 + j - pre.length = j + 1 by omega, List.getElem?_cons_succ]
 unfold Oper.wp
 rw [h1]
 rcases h2 with h2 | ⟨h2, h2'⟩
 ·subst h2; exact go v h5
 ·subst h2; subst h2'; exact go undef h5
theorem AWp_max (hT : TOk P T) {id : Nat} {ops : Array Oper} {Q : Exit → ASt → Prop} {σ : ASt} (k : Nat) {o : Oper} {r : List Oper} {c : Call} {x y : Operand} (e : ops.toList = ops.toList.take k ++ o :: r) (hr : regOk n ops.toList = true) (hg : Zas ops.toList = []) (hog : o.guard = none)
  (ho : o.op = .call c) (hc : c.callee = .builtin .max) (ha : c.args = #[x, y])
  (h : FOps P T ops.toList (Zas ops.toList) 0 (ops.toList.take k) σ.tm σ.h fun τ => ∃ kd p q, τ.opv x = .int kd p ∧ τ.opv y = .int kd q ∧ Hand P T ops.toList (ops.toList.take k).length o r τ (Q .normal) ⟨.int kd (max p q), .none, []⟩) : AWp P n L (.region id ops false) Q σ := by
 refine AWp_handK hT (ops.toList.take k) o r e hr hg hog (K := fun τ => ∃ kd p q, τ.opv x = .int kd p ∧ τ.opv y = .int kd q ∧ Hand P T ops.toList (ops.toList.take k).length o r τ (Q .normal) ⟨.int kd (max p q), .none, []⟩) ?_ h
 rintro τ ⟨kd, p, q, h1, h2, h3⟩ X ι a w s
 exact ⟨_, max_ok s ho hc ha h1 h2, h3⟩
end
section
variable {P : Program} {T : Zbc} {n : Nat} {L : List Id}
end
def ung (o : Oper) : Oper := { o with guard := none }
def vPut (v? : Option Bool) (d : Option Tmp) (v : AV) (tm : Nat → AV) (k : (Nat → AV) → Prop) : Prop := match v? with
 | none => fPut d none v tm k
 | some c => match d with
  | none => False
  | some _ => v = .bool c ∧ fPut d none (.bool c) tm k
def VOps (P : Program) (T : Zbc) (all0 : List Oper) (V : Nat → Option Bool) : Nat → List Oper → (Nat → AV) → Zaq → (ASt → Prop) → Prop
 | _, [], tm, h, K => K ⟨tm, h⟩
 | j, ⟨d, op, _, _, _, g⟩ :: r, tm, h, K => match (match g with
   | none => some true
   | some (i, b) => bif Nat.blt i j then (match V i with | some c => some (bif c then b else !b) | none => none) else none) with
  | some true => fOp P T all0 tm h d none op fun v0 u0 => Zcq v0 fun v => Zer u0 fun u => Zej (fUpOk [] h d none u)
   (fUp d u tm h fun tm1 h1 => vPut (V j) d v tm1 fun tm3 => VOps P T all0 V (j + 1) r tm3 h1 K)
  | some false => match V j with
   | none => fPut d none .any tm fun tm3 => VOps P T all0 V (j + 1) r tm3 h K
   | some _ => False
  | none => False
theorem guards_ung : ∀ l : List Oper, Zas (l.map ung) = []
 | [] => rfl
 | o :: r => by
   have := guards_ung r
   simp only [List.map_cons, Zas, ung]
   exact this
section
variable {P : Program} {T : Zbc} {n : Nat} {L : List Id} {X : Nat → Prop} {all : List Oper}
theorem VOps_run {V : Nat → Option Bool} {j : Nat} {d : Option Tmp} {op : Op} {ty : TypeId} {pos : String} {after : Array Edge} {r : List Oper} {tm : Nat → AV} {h : Zaq} {K : ASt → Prop} {all0 : List Oper} (hg0 : Zas all0 = [])
  (hh : fOp P T all0 tm h d none op fun v0 u0 => Zcq v0 fun v => Zer u0 fun u => Zej (fUpOk [] h d none u)
   (fUp d u tm h fun tm1 h1 => vPut (V j) d v tm1 fun tm3 => VOps P T all0 V (j + 1) r tm3 h1 K)) :
  Next1 P T all0 j ⟨d, op, ty, pos, after, none⟩ ⟨tm, h⟩ fun τ => (∀ c, V j = some c → ∃ d0, d = some d0 ∧ τ.tm d0 = .bool c) ∧ VOps P T all0 V (j + 1) r τ.tm τ.h K := by
 have := fOp_evOp (o := ⟨d, op, ty, pos, after, none⟩) hh
 unfold Next1
 refine Eq.mp (congrArg (evOp P T all0 ⟨tm, h⟩ ⟨d, op, ty, pos, after, none⟩) ?_) this
 funext e
 rw [Zbr, Zfp]
 have e1 : fUpOk [] h d none e.up = upOk all0 ⟨tm, h⟩ ⟨d, op, ty, pos, after, none⟩ e.up := by
  unfold fUpOk upOk; rw [hg0]; cases e.up <;> rfl
 rw [e1, fUp_eq ⟨d, op, ty, pos, after, none⟩]
 have e3 : ∀ (τ : ASt) (v : AV) (k : (Nat → AV) → Prop), fPut d none v τ.tm k = k (τ.put d (gval none v)).tm := by
  intro τ v k; unfold fPut; cases d with
  | none => rfl
  | some d => simp only [Zbr]; rfl
 have e4 : appS all0 j ⟨d, op, ty, pos, after, none⟩ e.val e.up ⟨tm, h⟩ = (upS (Zaw ⟨d, op, ty, pos, after, none⟩) e.up ⟨tm, h⟩).put d (gval none e.val) := by
  unfold appS; rw [hg0]; simp only [memN, cond_false]
 have e5 : ∀ (τ : ASt) (v : AV), (τ.put d v).h = τ.h := by intro τ v; cases d <;> rfl
 rw [e4]
 have key : vPut (V j) d e.val (upS (Zaw ⟨d, op, ty, pos, after, none⟩) e.up ⟨tm, h⟩).tm (fun tm3 => VOps P T all0 V (j + 1) r tm3 (upS (Zaw ⟨d, op, ty, pos, after, none⟩) e.up ⟨tm, h⟩).h K) =
   ((∀ c, V j = some c → ∃ d0, d = some d0 ∧ e.val = .bool c) ∧
    VOps P T all0 V (j + 1) r ((upS (Zaw ⟨d, op, ty, pos, after, none⟩) e.up ⟨tm, h⟩).put d (gval none e.val)).tm ((upS (Zaw ⟨d, op, ty, pos, after, none⟩) e.up ⟨tm, h⟩).put d (gval none e.val)).h K) := by
  rw [e5]
  unfold vPut
  cases hv : V j with
  | none =>
   simp only [e3]
   apply propext
   exact ⟨fun h => ⟨fun c hc => by simp at hc, h⟩, fun h => h.2⟩
  | some c =>
   cases d with
   | none => simp
   | some d0 =>
    simp only [e3]
    apply propext
    constructor
    ·rintro ⟨h1, h2⟩
     rw [← h1] at h2
     exact ⟨fun c' hc => ⟨d0, rfl, by cases hc; exact h1⟩, h2⟩
    ·rintro ⟨h1, h2⟩
     obtain ⟨d1, hd, h3⟩ := h1 c rfl
     exact ⟨h3, by rw [← h3]; exact h2⟩
 rw [e5] at key
 rw [key]
 have key2 : ((∀ c, V j = some c → ∃ d0, d = some d0 ∧ e.val = .bool c)) = (∀ c, V j = some c → ∃ d0, d = some d0 ∧ ((upS (Zaw ⟨d, op, ty, pos, after, none⟩) e.up ⟨tm, h⟩).put d (gval none e.val)).tm d0 = .bool c) := by
  apply propext
  refine forall_congr' fun c => forall_congr' fun _ => exists_congr fun d0 => and_congr_right fun hd => ?_
  subst hd
  have : ((upS (Zaw ⟨some d0, op, ty, pos, after, none⟩) e.up ⟨tm, h⟩).put (some d0) (gval none e.val)).tm d0 = gval none e.val := updT_same _ _ _
  rw [this]
  cases e.val <;> simp [gval]
 rw [key2]
 simp only [e5]
 cases upOk all0 ⟨tm, h⟩ ⟨d, op, ty, pos, after, none⟩ e.up <;> simp [Zej]
theorem regOkFrom_ung {all all' : List Oper} : ∀ (l : List Oper) (k k' : Nat) (gs : List Nat), Zc3 n all gs k l = true → Zc3 n all' [] k' (l.map ung) = true
 | [], _, _, _, _ => rfl
 | o :: r, k, k', gs, h => by
   simp only [Zc3, Bool.and_eq_true] at h
   obtain ⟨⟨⟨h1, _⟩, h3⟩, h4⟩ := h
   simp only [List.map_cons, Zc3, ung, Bool.and_eq_true]
   refine ⟨⟨⟨?_, trivial⟩, h3⟩, regOkFrom_ung r (k + 1) (k' + 1) gs h4⟩
   cases hd : o.dst with
   | none => rfl
   | some d =>
    rw [hd] at h1
    simp only [Bool.and_eq_true] at h1 ⊢
    exact ⟨h1.1, rfl⟩
theorem VOps_sound (hT : TOk P T) (hr : RegOk n all) (hr0 : RegOk n (all.map ung)) {V : Nat → Option Bool} {K : ASt → Prop} {Q : Exit → Act → World → Prop} {ι0 : Zai} {w0 : World}
  (hQ : ∀ τ ι' a' w', K τ → St n X τ ι' a' w' → Zbo L X ι0 ι' w0 w' → Q .normal a' w') : ∀ (rest : List Oper) (k : Nat) (σ : ASt) (ι : Zai) (a : Act) (w : World), (∀ j, rest[j]? = all[k + j]?) →
  VOps P T (all.map ung) V k rest σ.tm σ.h K → StG (all.map ung).toArray n X σ ι a w → (∀ j, j < k → ∀ c, V j = some c → j ∈ Zas all → yielded all.toArray a.tmps j = some c) → Zbo L X ι0 ι w0 w → wpOps P all.toArray Q (List.range' k rest.length) a w
 | [], k, σ, ι, a, w, _, h, s, _, hg => by
   simp only [List.length_nil, List.range'_zero, wpOps]
   simp only [VOps] at h
   have h0 := guards_ung all
   exact hQ _ ι a w h ⟨s.sim, s.defers, s.size, fun t => s.tm t (fun j b v e => by have := (s.gd t j b v e).1; simp [h0] at this)⟩ hg
 | o :: r, k, σ, ι, a, w, hrest, h, s, hV, hg => by
   have ho : all[k]? = some o := by have := hrest 0; simpa using this.symm
   have hk : all.toArray[k]? = some o := by simpa using ho
   have ho0 : (all.map ung)[k]? = some (ung o) := by rw [List.getElem?_map, ho]; rfl
   have hg0 := guards_ung all
   simp only [List.length_cons, List.range'_succ]
   rw [wpOps_cons]
   obtain ⟨d, op, ty, pos, after, g⟩ := o
   simp only [VOps] at h
   have hrest' : ∀ j, r[j]? = all[k + 1 + j]? := fun j => by have := hrest (j + 1); simpa [Nat.add_assoc, Nat.add_comm 1 j] using this
   have gmem : ∀ i b, g = some (i, b) → i ∈ Zas all := fun i b e => Zda ho (j := i) (b := b) e
   have want : ∀ x, (match g with
     | none => some true
     | some (i, b) => bif Nat.blt i k then (match V i with | some c => some (bif c then b else !b) | none => none) else none) = some x → Region.wanted ⟨d, op, ty, pos, after, g⟩ (yielded all.toArray a.tmps) = x := by
    intro x hx
    cases g with
    | none => simp only at hx; cases hx; simp [Region.wanted]
    | some gb =>
     obtain ⟨i, b⟩ := gb
     simp only at hx
     cases hi : Nat.blt i k with
     | false => rw [hi] at hx; cases hx
     | true =>
      rw [hi] at hx
      rw [Nat.blt_eq] at hi
      simp only [cond_true] at hx
      cases hv : V i with
      | none => rw [hv] at hx; cases hx
      | some c =>
       rw [hv] at hx
       have := hV i hi c hv (gmem i b rfl)
       simp only [Region.wanted, this]
       cases hx
       cases c <;> cases b <;> rfl
   unfold wpOp
   simp only [hk]
   generalize hm : (match g with
     | none => some true
     | some (i, b) => bif Nat.blt i k then (match V i with | some c => some (bif c then b else !b) | none => none) else none) = m at h want
   cases m with
   | none => exact h.elim
   | some x =>
    have hw := want x rfl
    rw [hw]
    cases x with
    | true =>
     simp only at h
     simp only [if_true]
     left
     have h1 := VOps_run (ty := ty) (pos := pos) (after := after) hg0 h
     have hw0 : Region.wanted (ung ⟨d, op, ty, pos, after, g⟩) (yielded (all.map ung).toArray a.tmps) = true := by simp [Region.wanted, ung]
     have s' : StG (all.map ung).toArray n X ⟨σ.tm, σ.h⟩ ι a w := s
     obtain ⟨e, ⟨hu, hKe⟩, hwp⟩ := evOp_sound (X := X) hT s' hw0 h1 (Q := Q)
     have hwp' : Oper.wp P ⟨d, op, ty, pos, after, g⟩ a w (Did P X ⟨σ.tm, σ.h⟩ ι a w (ung ⟨d, op, ty, pos, after, g⟩) e) Q := hwp
     refine Oper.wp_mono (fun a' w' hd => ?_) hwp'
     obtain ⟨v, ι', rfl, h2, h3, h4, h5⟩ := hd
     have sN := app_StG hr0 s' ho0 hu h2 h3 (.inl ⟨hw0, h4⟩)
     refine VOps_sound hT hr hr0 hQ r (k + 1) _ ι' _ w' hrest' hKe.2 sN (fun j hj c hc hjm => ?_) (hg.trans ⟨h5, pin_of hu h3⟩)
     by_cases hjk : j = k
     ·subst hjk
      obtain ⟨d0, hd0, h6⟩ := hKe.1 c hc
      refine (yielded_eq _ _ _).2 ⟨d0, by rw [dstOf_eq, hk]; exact hd0, ?_⟩
      have h6' : (appS (all.map ung) j (ung ⟨d, op, ty, pos, after, g⟩) e.val e.up ⟨σ.tm, σ.h⟩).tm d0 = .bool c := h6
      have h7 := sN.tm d0 (fun j b v e => by rw [h6'] at e; cases e)
      rw [h6'] at h7
      simp only [Dv.V] at h7
      rw [Array.getD_eq_getD_getElem?] at h7
      cases hq : ((a.put (ung ⟨d, op, ty, pos, after, g⟩).dst v).tmps)[d0]? with
      | none => rw [hq] at h7; simp [undef] at h7
      | some y => rw [hq] at h7; simp at h7; rw [← h7]
     ·have := hV j (by omega) c hc hjm
      rw [← this]
      exact Zdk hr ho a v hjm hjk
    | false =>
     simp only at h
     simp only [Bool.false_eq_true, if_false]
     cases hvk : V k with
     | some c => rw [hvk] at h; exact h.elim
     | none =>
      rw [hvk] at h
      have hlt : ∀ d0, d = some d0 → d0 < n := fun d0 e => hr.lt k _ d0 ho e
      have hS : St n X ⟨σ.tm, σ.h⟩ ι a w := ⟨s.sim, s.defers, s.size, fun t => s.tm t (fun j b v e => by have := (s.gd t j b v e).1; simp [hg0] at this)⟩
      have hS' := hS.put d .any undef hlt (by simp only [Dv.V])
      have h' : VOps P T (all.map ung) V (k + 1) r ((⟨σ.tm, σ.h⟩ : ASt).put d .any).tm ((⟨σ.tm, σ.h⟩ : ASt).put d .any).h K := by
       simp only at h
       unfold fPut at h
       cases d with
       | none => exact h
       | some d0 => simp only [Zbr] at h; exact h
      refine VOps_sound hT hr hr0 hQ r (k + 1) _ ι _ w hrest' h' (StG.of_St hS') (fun j hj c hc hjm => ?_) hg
      by_cases hjk : j = k
      ·subst hjk; rw [hvk] at hc; cases hc
      ·have := hV j (by omega) c hc hjm
       rw [← this]
       exact Zdk hr ho a undef hjm hjk
def VRegS (P : Program) (T : Zbc) (ops : List Oper) (V : Nat → Option Bool) (σ : ASt) (K : ASt → Prop) : Prop := match σ with
 | ⟨tm, h⟩ => VOps P T (ops.map ung) V 0 ops tm h K
theorem AWp_regV (hT : TOk P T) (V : Nat → Option Bool) {id : Nat} {ops : Array Oper} {Q : Exit → ASt → Prop} {σ : ASt} (hr : regOk n ops.toList = true) (hh : VRegS P T ops.toList V σ (Q .normal)) : AWp P n L (.region id ops false) Q σ := by
 obtain ⟨tm, h⟩ := σ
 refine AWp.region hr (fun X ι a w s => ?_)
 have hr0 : RegOk n (ops.toList.map ung) := Zed (by
  unfold regOk; rw [guards_ung]; exact regOkFrom_ung _ 0 0 _ hr)
 have := VOps_sound (K := Q .normal) (Q := fun e a' w' => e = .normal ∧ ∃ τ ι', Q .normal τ ∧ St n X τ ι' a' w' ∧ Zbo L X ι ι' w w') hT (Zed hr) hr0 (fun τ ι' a' w' h1 h2 h3 => ⟨rfl, τ, ι', h1, h2, h3⟩) ops.toList 0 ⟨tm, h⟩ ι a w (fun j => by simp) hh
  (StG.of_St s) (fun j hj => absurd hj (Nat.not_lt_zero j)) (Zbo.refl L X ι w)
 simpa [List.range_eq_range'] using this
end
section
variable {P : Program} {T : Zbc} {n : Nat} {L : List Id} {X : Nat → Prop} {all : List Oper} {E : Nat → Eff} {dep : Nat → Nat → Bool} {σ0 : ASt} {rdX : Nat → List Id}
structure RegX (P : Program) (T : Zbc) (all : List Oper) (E : Nat → Eff) (dep : Nat → Nat → Bool) (σ0 : ASt) (rdX : Nat → List Id) : Prop where
 ev : ∀ k o, all[k]? = some o → evOp P T all (stp all E σ0 topP k) o (fun e => e = E k) ∧ upOk all (stp all E σ0 topP k) o (E k).up = true
 edge : ∀ (k : Nat) (o : Oper), all[k]? = some o → ∀ e ∈ o.after, Region.binds .any e = true → e.on < k
 deps : ∀ (k : Nat) (o : Oper) (i : Nat), all[k]? = some o → dep i k = true → ∃ e ∈ o.after, Region.binds .any e = true ∧ (i = e.on ∨ dep i e.on = true)
 gd : ∀ (k : Nat) (o : Oper) (j : Nat) (b : Bool), all[k]? = some o → o.guard = some (j, b) → dep j k = true
 ap : ∀ i k oi ok, i < k → all[i]? = some oi → all[k]? = some ok → dep i k = false → Apart all (stp all E σ0 topP i) (stp all E σ0 topP k) oi ok ⟨(E i).val, (E i).up, rdX i⟩ ⟨(E k).val, (E k).up, rdX k⟩
 start : ∀ t j b v, σ0.tm t ≠ .guard j b v
 loc : ∀ (i : Nat) (o : Oper) (p : Nat → Bool), all[i]? = some o → Cl all dep p → p i = false → (∀ j, dep j i = true → p j = true) → Ag all (stp all E σ0 topP i) (stp all E σ0 p all.length) o ⟨(E i).val, (E i).up, rdX i⟩ → ∀ K' : Eff → Prop, K' (E i) → evOp P T all (stp all E σ0 p all.length) o K'
theorem RegX.dep_lt (R : RegX P T all E dep σ0 rdX) : ∀ (k i : Nat), k < all.length → dep i k = true → i < k := by
 intro k
 induction k using Nat.strongRecOn with
 | ind k ih =>
  intro i hk hd
  have ho : all[k]? = some all[k] := by simp [hk]
  obtain ⟨e, he, hb, h⟩ := R.deps k _ i ho hd
  have hlt := R.edge k _ ho e he hb
  rcases h with h | h
  ·omega
  ·have := ih e.on hlt i (by omega) h
   omega
theorem RegX.noG (R : RegX P T all E dep σ0 rdX) {p : Nat → Bool} (hp : Cl all dep p) : ∀ (m t j : Nat) (b : Bool) (v : AV), (stp all E σ0 p m).tm t = .guard j b v → p j = true ∧ j < m
 | 0, t, j, b, v, h => (R.start t j b v h).elim
 | m + 1, t, j, b, v, h => by
   simp only [stp] at h
   cases hpm : p m with
   | false => rw [hpm] at h; have := R.noG hp m t j b v h; exact ⟨this.1, by omega⟩
   | true =>
    rw [hpm] at h
    simp only [cond_true, step] at h
    split at h
    ·rename_i o ho
     have hm : m < all.length := by
      rcases Nat.lt_or_ge m all.length with h' | h'
      ·exact h'
      ·simp [List.getElem?_eq_none h'] at ho
     rw [put_tm] at h
     split at h
     ·have := gval_guard h
      have hd := R.gd m o j b ho this
      exact ⟨hp j m hm hpm hd, by have := R.dep_lt m j hm hd; omega⟩
     ·have := R.noG hp m t j b v (upS_tm_guard h); exact ⟨this.1, by omega⟩
    ·have := R.noG hp m t j b v h; exact ⟨this.1, by omega⟩
theorem RegX.next (R : RegX P T all E dep σ0 rdX) {p : Nat → Bool} (hp : Cl all dep p) {i : Nat} {o : Oper} (ho : all[i]? = some o) (hi : p i = false) (hd : ∀ j, dep j i = true → p j = true) :
  Next1 P T all i o (stp all E σ0 p all.length) fun τ => τ = stp all E σ0 (plus p i) all.length := by
 have hlt : i < all.length := by
  rcases Nat.lt_or_ge i all.length with h' | h'
  ·exact h'
  ·simp [List.getElem?_eq_none h'] at ho
 have low : stp all E σ0 topP i = stp all E σ0 (fun k => Nat.blt k i) all.length := by
  have h1 : stp all E σ0 topP i = stp all E σ0 (fun k => Nat.blt k i) i := Zdv i (fun k hk => by simpa [topP] using hk)
  have hm : all.length = i + (all.length - i) := by omega
  have hf : ∀ k, i ≤ k → k < i + (all.length - i) → (fun k => Nat.blt k i) k = false := fun k hk _ => by
   simp only
   cases e : Nat.blt k i with
   | false => rfl
   | true => rw [Nat.blt_eq] at e; omega
  rw [h1]
  generalize (fun k => Nat.blt k i) = q at *
  rw [hm]
  have h2 : ∀ d, (∀ k, i ≤ k → k < i + d → q k = false) → stp all E σ0 q i = stp all E σ0 q (i + d) := by
   intro d
   induction d with
   | zero => intro _; rfl
   | succ d ih =>
    intro h
    rw [← Nat.add_assoc]
    simp only [stp, h (i + d) (by omega) (by omega), cond_false]
    exact ih (fun k a b => h k a (by omega))
  exact h2 _ hf
 have diff : ∀ k ok, all[k]? = some ok → p k ≠ Nat.blt k i → Zd4 (E k).up = false ∧ (∀ d, ok.dst = some d → d ∉ Zcf o.op ∧ d ∉ Ze6 all (stp all E σ0 topP i) o.guard) ∧
   (∀ x ∈ wIds (Zaw ok) (E k).up, x ∉ wIds (Zaw o) (E i).up ∧ x ∉ rdX i) := by
  intro k ok hok hne
  rcases Nat.lt_trichotomy k i with h | h | h
  ·have hb : Nat.blt k i = true := by rw [Nat.blt_eq]; exact h
   have hpk : p k = false := by cases e : p k with
    | false => rfl
    | true => rw [e, hb] at hne; exact (hne rfl).elim
   have hdk : dep k i = false := by cases e : dep k i with
    | false => rfl
    | true => rw [hd k e] at hpk; cases hpk
   have ap := R.ap k i ok o h hok ho hdk
   exact ⟨ap.m1, fun d e => ⟨(ap.d1 d e).1, (ap.d1 d e).2.1⟩, ap.h1⟩
  ·subst h
   have hb : Nat.blt k k = false := by cases e : Nat.blt k k with
    | false => rfl
    | true => rw [Nat.blt_eq] at e; omega
   rw [hi, hb] at hne; exact (hne rfl).elim
  ·have hb : Nat.blt k i = false := by cases e : Nat.blt k i with
    | false => rfl
    | true => rw [Nat.blt_eq] at e; omega
   have hpk : p k = true := by cases e : p k with
    | true => rfl
    | false => rw [e, hb] at hne; exact (hne rfl).elim
   have hk : k < all.length := by
    rcases Nat.lt_or_ge k all.length with h' | h'
    ·exact h'
    ·simp [List.getElem?_eq_none h'] at hok
   have hdk : dep i k = false := by cases e : dep i k with
    | false => rfl
    | true => rw [hp i k hk hpk e] at hi; cases hi
   have ap := R.ap i k o ok h ho hok hdk
   refine ⟨ap.m2, ap.d2, fun x hx => ⟨fun hx' => (ap.h1 x hx').1 hx, ap.h2 x hx⟩⟩
 have sameT : ∀ t, (t ∈ Zcf o.op ∨ t ∈ Ze6 all (stp all E σ0 topP i) o.guard) → (stp all E σ0 p all.length).tm t = (stp all E σ0 topP i).tm t := by
  intro t ht
  rw [low]
  refine stp_tm _ (fun k _ => ?_)
  by_cases hne : p k = Nat.blt k i
  ·exact .inl hne
  ·refine .inr fun ok hok => ?_
   obtain ⟨h1, h2, _⟩ := diff k ok hok hne
   rintro (h | h)
   ·rw [h1] at h; cases h
   ·rcases ht with ht | ht
    ·exact (h2 t h).1 ht
    ·exact (h2 t h).2 ht
 have sameH : ∀ j, (j ∈ wIds (Zaw o) (E i).up ∨ j ∈ rdX i) → (stp all E σ0 p all.length).h j = (stp all E σ0 topP i).h j := by
  intro t ht
  rw [low]
  refine stp_h _ (fun k _ => ?_)
  by_cases hne : p k = Nat.blt k i
  ·exact .inl hne
  ·refine .inr fun ok hok => ?_
   obtain ⟨h1, _, h2⟩ := diff k ok hok hne
   rintro (h | h)
   ·rw [h1] at h; cases h
   ·rcases ht with ht | ht
    ·exact (h2 t h).1 ht
    ·exact (h2 t h).2 ht
 have bar : Zd4 (E i).up = true → stp all E σ0 p all.length = stp all E σ0 topP i := by
  intro hm
  rw [low]
  refine Zdv _ (fun k hk => ?_)
  have hok : all[k]? = some all[k] := by simp [hk]
  rcases Nat.lt_trichotomy k i with h | h | h
  ·have hb : Nat.blt k i = true := by rw [Nat.blt_eq]; exact h
   rw [hb]
   cases e : dep k i with
   | true => exact hd k e
   | false => have := (R.ap k i _ o h hok ho e).m2; rw [hm] at this; cases this
  ·subst h
   rw [hi]
   cases e : Nat.blt k k with
   | false => rfl
   | true => rw [Nat.blt_eq] at e; omega
  ·cases e : Nat.blt k i with
   | true => rw [Nat.blt_eq] at e; omega
   | false =>
    cases e' : p k with
    | false => rfl
    | true =>
     cases e2 : dep i k with
     | true => rw [hp i k hk e' e2] at hi; cases hi
     | false => have := (R.ap i k o _ h ho hok e2).m1; rw [hm] at this; cases this
 have hev := R.ev i o ho
 have hloc := R.loc i o p ho hp hi hd
 have hfr : Ze7 (E i).up = true → (stp all E σ0 p all.length).h (Zaw o) = (stp all E σ0 topP i).h (Zaw o) := by
  intro ha
  cases hu : (E i).up with
  | move _ _ => rw [bar (by rw [hu]; rfl)]
  | alloc _ => exact sameH _ (.inl (by rw [hu]; simp [wIds]))
  | box _ => exact sameH _ (.inl (by rw [hu]; simp [wIds]))
  | bld _ _ _ => exact sameH _ (.inl (by rw [hu]; simp [wIds]))
  | _ => rw [hu] at ha; cases ha
 refine hloc ⟨fun t ht => sameT t (.inl ht), fun t ht => sameT t (.inr ht), fun j hj => sameH j (.inr hj), hfr, bar⟩ _ ?_
 refine ⟨upOk_local hfr (fun j hj => sameH j (.inl hj)) hev.2, ?_⟩
 rw [appS_step ho (fun t b v e => by have := (R.noG hp _ t i b v e).1; rw [hi] at this; cases this)]
 have pair : ∀ k, i < k → k < all.length → p k = true → ∀ oi ok, all[i]? = some oi → all[k]? = some ok → Apart all (stp all E σ0 topP i) (stp all E σ0 topP k) oi ok ⟨(E i).val, (E i).up, rdX i⟩ ⟨(E k).val, (E k).up, rdX k⟩ := by
  intro k h1 h2 h3 oi ok h4 h5
  refine R.ap i k oi ok h1 h4 h5 ?_
  cases e : dep i k with
  | false => rfl
  | true => rw [hp i k h2 h3 e] at hi; cases hi
 refine stp_plus hlt hi (fun k t h1 h2 h3 oi ok h4 h5 => ?_) (fun k j h1 h2 h3 oi ok h4 h5 => ?_)
 ·have ap := pair k h1 h2 h3 oi ok h4 h5
  by_cases h : touchT oi (E i).up t
  ·right
   rintro (h' | h')
   ·rw [ap.m2] at h'; cases h'
   ·rcases h with h | h
    ·rw [ap.m1] at h; cases h
    ·exact (ap.d1 t h).2.2 h'
  ·exact .inl h
 ·have ap := pair k h1 h2 h3 oi ok h4 h5
  by_cases h : touchH oi (E i).up j
  ·right
   rintro (h' | h')
   ·rw [ap.m2] at h'; cases h'
   ·rcases h with h | h
    ·rw [ap.m1] at h; cases h
    ·exact (ap.h1 j h).1 h'
  ·exact .inl h
set_option linter.unnecessarySimpa false in
theorem RegX.sound (hT : TOk P T) (hr : RegOk n all) (R : RegX P T all E dep σ0 rdX) {Q : Exit → Act → World → Prop} {ι0 : Zai} {w0 : World}
  (hQ : ∀ ι' a' w', StG all.toArray n X (stp all E σ0 topP all.length) ι' a' w' → Zbo L X ι0 ι' w0 w' → Q .normal a' w') :
  ∀ (fuel : Nat) (listed : Array Bool) (ι : Zai) (a : Act) (w : World), listed.size = all.length → Cl all dep (fun k => listed.getD k false) → left (fun k => listed.getD k false) all.length ≤ fuel →
   StG all.toArray n X (stp all E σ0 (fun k => listed.getD k false) all.length) ι a w → Zbo L X ι0 ι w0 w → wpAny P .any all.toArray Q fuel listed a w := by
 have done : ∀ (listed : Array Bool) (ι : Zai) (a : Act) (w : World), listed.size = all.length → StG all.toArray n X (stp all E σ0 (fun k => listed.getD k false) all.length) ι a w → Zbo L X ι0 ι w0 w →
   Region.ready .any all.toArray listed = [] → Q .normal a w := by
  intro listed ι a w hsz s hg hrd
  have all1 : ∀ k, k < all.length → listed.getD k false = true := by
   intro k
   induction k using Nat.strongRecOn with
   | ind k ih =>
    intro hk
    cases e : listed.getD k false with
    | true => rfl
    | false =>
     have ho : all[k]? = some all[k] := by simp [hk]
     have : k ∈ Region.ready .any all.toArray listed := by
      rw [mem_ready]
      refine ⟨?_, all[k], by simpa using ho, fun e' he' hb => ?_⟩
      ·have hk' : k < listed.size := by omega
       simp [hk'] at e ⊢; exact e
      ·have hlt := R.edge k _ ho e' he' hb
       exact ih e'.on hlt (by omega)
     rw [hrd] at this; cases this
  refine hQ ι a w ?_ hg
  rw [Zdv (q := topP) all.length (fun k hk => all1 k hk)] at s
  exact s
 intro fuel
 induction fuel with
 | zero =>
  intro listed ι a w hsz hcl hl s hg
  have h0 := left_zero all.length (by omega : left (fun k => listed.getD k false) all.length = 0)
  have hrd : Region.ready .any all.toArray listed = [] := by
   apply List.eq_nil_iff_forall_not_mem.2
   intro j hj
   obtain ⟨h1, o, ho, _⟩ := mem_ready.1 hj
   have hj' : j < all.length := by
    have := (Array.getElem?_eq_some_iff.1 ho).1
    simpa using this
   have := h0 j hj'
   have hk' : j < listed.size := by omega
   simp [hk'] at h1 this
   rw [h1] at this; cases this
  exact ⟨hrd, done listed ι a w hsz s hg hrd⟩
 | succ fuel ih =>
  intro listed ι a w hsz hcl hl s hg
  refine ⟨done listed ι a w hsz s hg, fun i hi => ?_⟩
  obtain ⟨h1, o, ho, hedge⟩ := mem_ready.1 hi
  have ho' : all[i]? = some o := by simpa using ho
  have hi' : i < all.length := by
   have := (Array.getElem?_eq_some_iff.1 ho).1
   simpa using this
  have hil : i < listed.size := by omega
  have hpi : listed.getD i false = false := by simp [hil] at h1 ⊢; exact h1
  have hdi : ∀ j, dep j i = true → listed.getD j false = true := by
   intro j hj
   obtain ⟨e, he, hb, h⟩ := R.deps i o j ho' hj
   have hon := hedge e he hb
   rcases h with h | h
   ·subst h; exact hon
   ·have hlt := R.edge i o ho' e he hb
    exact hcl j e.on (by omega) hon h
  have hplus : (fun k => (listed.setIfInBounds i true).getD k false) = plus (fun k => listed.getD k false) i := by
   funext k
   by_cases e : k = i
   ·subst e; rw [Zey]; simp [hil]
   ·rw [Zdl _ e]; exact getD_set_ne false (Ne.symm e)
  refine Zdm (L := L) hT hr s ho' (R.next hcl ho' hpi hdi) (fun τ ι' a' w' hτ hs hg' => ?_)
  subst hτ
  refine ih _ ι' a' w' (by simp [hsz]) ?_ ?_ (by rw [hplus]; exact hs) (hg.trans hg')
  ·rw [hplus]
   intro j k hk hpk hdj
   by_cases e : j = i
   ·subst e; exact Zey _ _
   ·rw [Zdl _ e]
    by_cases e' : k = i
    ·subst e'; exact hdi j hdj
    ·rw [Zdl _ e'] at hpk; exact hcl j k hk hpk hdj
  ·rw [hplus]
   have := left_plus (p := fun k => listed.getD k false) hpi all.length hi'
   omega
def noneUp : Up → Bool
 | .none => true
 | _ => false
def only (b0 : Id) : List Id → Bool
 | [i] => idEq i b0
 | _ => false
end
section
variable {P : Program} {T : Zbc} {n : Nat} {L : List Id} {X : Nat → Prop} {all : List Oper}
theorem evOp_look {o : Oper} {K : Eff → Prop} {σ σ' : ASt} (hg : o.guard = none) (ht : ∀ t ∈ Zcf o.op, σ'.tm t = σ.tm t) (hh : σ'.h = σ.h) (h : evOp P T all σ o K) : evOp P T all σ' o K := by
 have two : ∀ {a b : List Nat}, (∀ t ∈ app2 a b, σ'.tm t = σ.tm t) → (∀ t ∈ a, σ'.tm t = σ.tm t) ∧ (∀ t ∈ b, σ'.tm t = σ.tm t) := fun h => ⟨fun t ht => h t (Zdg.2 (.inl ht)), fun t ht => h t (Zdg.2 (.inr ht))⟩
 have hun : ∀ τ p, under all τ o p = p := fun τ p => by unfold under; rw [hg]
 have plain : Zcr T all σ o K → Zcr T all σ' o K := by
  intro hp
  unfold Zcr at hp ⊢
  split at hp
  ·rename_i obl v u rd he
   have : Zdh T (σ'.viewS (gsOf o)) (Zaw o) o.op = some ⟨obl, v, u, rd⟩ := evSimple_local (Zb5 ht) (fun i _ => congrFun hh i) (fun _ => congrFun hh _) he
   rw [this]
   split at hp
   ·exact hp
   ·rw [hun] at hp; simp only [hun]; exact hp
  ·exact hp.elim
 unfold evOp at h
 split at h
 ·rename_i c x y hop
  rw [hop] at ht
  simp only [Zcf] at ht
  have h2 := two ht
  have h3 := two h2.2
  have a1 : ∀ gs, (σ'.viewS gs).opv c = (σ.viewS gs).opv c := fun gs => Zbb (Zb5 h2.1)
  have a2 : ∀ gs, (σ'.viewS gs).opv x = (σ.viewS gs).opv x := fun gs => Zbb (Zb5 h3.1)
  have a3 : ∀ gs, (σ'.viewS gs).opv y = (σ.viewS gs).opv y := fun gs => Zbb (Zb5 h3.2)
  unfold evOp
  simp only [hop]
  unfold evPick at h ⊢
  simp only [a1, a2, a3]
  exact h
 ·rename_i c hop
  split at h
  ·rename_i f hc
   obtain ⟨cal, args, ts⟩ := c
   simp only at hc; subst hc
   rw [hop] at ht
   simp only [Zcf] at ht
   have ht2 := two ht
   unfold evOp
   simp only [hop]
   unfold evCall at h ⊢
   rw [Zbb (Zb5 ht2.1), Zdz (Zb5 ht2.2)]
   simp only [hun] at h ⊢
   rw [hh]
   exact h
  ·rename_i hc
   obtain ⟨cal, args, ts⟩ := c
   cases cal with
   | value f => exact (hc f rfl).elim
   | builtin b => unfold evOp; simp only [hop]; exact plain h
   | invoke i m => unfold evOp; simp only [hop]; exact plain h
 ·rename_i h1 h2
  unfold evOp
  cases hop : o.op <;> simp only <;> first | exact plain h | exact (h1 _ _ _ hop).elim | exact (h2 _ hop).elim
def edgesIn (done : Nat) : List Edge → Bool
 | [] => true
 | e :: r => (bif Region.binds .any e then tb done e.on else true) && edgesIn done r
theorem edgesIn_of {done : Nat} : ∀ {es : List Edge}, (∀ e ∈ es, Region.binds .any e = true → tb done e.on = true) → edgesIn done es = true
 | [], _ => rfl
 | e :: r, h => by
   simp only [edgesIn, Bool.and_eq_true]
   refine ⟨?_, edgesIn_of fun e' he' => h e' (List.mem_cons_of_mem _ he')⟩
   cases hb : Region.binds .any e with
   | false => rfl
   | true => exact h e (List.mem_cons_self ..) hb
def readyN (done : Nat) : Nat → List Oper → List Nat
 | _, [] => []
 | k, o :: r => bif tb done k then readyN done (k + 1) r else bif edgesIn done o.after.toList then k :: readyN done (k + 1) r else readyN done (k + 1) r
theorem mem_readyN {done : Nat} : ∀ {l : List Oper} {s k : Nat} {o : Oper}, l[k]? = some o → tb done (s + k) = false → edgesIn done o.after.toList = true → s + k ∈ readyN done s l
 | [], s, k, o, h, _, _ => by simp at h
 | x :: r, s, 0, o, h, h1, h2 => by
   simp at h; subst h
   rw [Nat.add_zero] at h1 ⊢
   simp only [readyN]
   rw [h1, h2]
   exact List.mem_cons_self ..
 | x :: r, s, k + 1, o, h, h1, h2 => by
   have := mem_readyN (done := done) (l := r) (s := s + 1) (k := k) (by simpa using h) (by rw [← h1]; congr 1; omega) h2
   rw [show s + (k + 1) = s + 1 + k by omega]
   simp only [readyN]
   cases tb done s <;> simp only [cond_true, cond_false]
   ·cases edgesIn done x.after.toList <;> simp only [cond_true, cond_false]
    ·exact this
    ·exact List.mem_cons_of_mem _ this
   ·exact this
theorem readyN_nil {done : Nat} : ∀ {l : List Oper} {s : Nat}, (∀ k, k < l.length → tb done (s + k) = true) → readyN done s l = []
 | [], _, _ => rfl
 | x :: r, s, h => by
   simp only [readyN]
   have h0 := h 0 (by simp)
   rw [Nat.add_zero] at h0
   rw [h0, cond_true]
   exact readyN_nil fun k hk => by rw [← h (k + 1) (by simpa using hk)]; congr 1; omega
def getO : List Oper → Nat → Option Oper
 | [], _ => none
 | o :: _, 0 => some o
 | _ :: r, k + 1 => getO r k
theorem getO_eq : ∀ {l : List Oper} {k : Nat}, getO l k = l[k]?
 | [], k => by simp [getO]
 | o :: r, 0 => by simp [getO]
 | o :: r, k + 1 => by simp only [getO, List.getElem?_cons_succ]; exact getO_eq
def onE (i : Nat) : List Edge → Bool
 | [] => false
 | e :: r => (Region.binds .any e && Nat.beq e.on i) || onE i r
theorem onE_spec {i : Nat} : ∀ {es : List Edge}, onE i es = true → ∃ e ∈ es, Region.binds .any e = true ∧ e.on = i
 | [], h => by cases h
 | e :: r, h => by
   simp only [onE, Bool.or_eq_true, Bool.and_eq_true] at h
   rcases h with ⟨h1, h2⟩ | h
   ·exact ⟨e, List.mem_cons_self .., h1, Nat.eq_of_beq_eq_true h2⟩
   ·obtain ⟨e', h1, h2⟩ := onE_spec h
    exact ⟨e', List.mem_cons_of_mem _ h1, h2⟩
def reS (P : Program) (T : Zbc) (all : List Oper) (after : List Edge) (tm : Nat → AV) (h : Zaq) (K : Prop) : List Nat → Prop
 | [] => K
 | i :: r => match onE i after with
  | true => reS P T all after tm h K r
  | false => match getO all i with
   | some ⟨some d, op, _, _, _, g⟩ => gOp P T all tm h (some d) g op (fun v u _ => gval none v = tm d ∧ u = .none) ∧ reS P T all after tm h K r
   | _ => False
theorem reS_spec {after : List Edge} {tm : Nat → AV} {h : Zaq} {K : Prop} : ∀ {S : List Nat}, reS P T all after tm h K S → K ∧ ∀ i ∈ S, onE i after = false → ∀ o d, all[i]? = some o → o.dst = some d → evOp P T all ⟨tm, h⟩ o fun e => gval none e.val = tm d ∧ e.up = .none
 | [], hh => ⟨hh, fun i hi => by cases hi⟩
 | i :: r, hh => by
   simp only [reS] at hh
   cases ho : onE i after with
   | true =>
    rw [ho] at hh
    obtain ⟨h1, h2⟩ := reS_spec hh
    refine ⟨h1, fun j hj hn => ?_⟩
    rcases List.mem_cons.1 hj with e | e
    ·subst e; rw [ho] at hn; cases hn
    ·exact h2 j e hn
   | false =>
    rw [ho] at hh
    simp only at hh
    split at hh
    ·rename_i d op ty pos after' g hg
     obtain ⟨h1, h2⟩ := hh
     obtain ⟨h3, h4⟩ := reS_spec h2
     refine ⟨h3, fun j hj hn o d' ho' hd' => ?_⟩
     rcases List.mem_cons.1 hj with e | e
     ·subst e
      rw [getO_eq, ho'] at hg
      cases hg
      cases hd'
      exact gOp_evOp (o := ⟨some d, op, ty, pos, after', g⟩) h1
     ·exact h4 j e hn o d' ho' hd'
    ·exact hh.elim
def allR : List Nat → (Nat → Prop) → Prop
 | [], _ => True
 | [j], p => p j
 | j :: r, p => p j ∧ allR r p
theorem allR_mem {p : Nat → Prop} : ∀ {l : List Nat} {j : Nat}, allR l p → j ∈ l → p j
 | [], j, _, h => by cases h
 | [x], j, hh, h => by rw [List.mem_singleton] at h; subst h; exact hh
 | x :: y :: r, j, hh, h => by
   simp only [allR] at hh
   rcases List.mem_cons.1 h with e | e
   ·subst e; exact hh.1
   ·exact allR_mem hh.2 e
def GH (P : Program) (T : Zbc) (all : List Oper) (S : List Nat) : Nat → Nat → (Nat → AV) → Zaq → (ASt → Prop) → Prop
 | 0, _, _, _, _ => False
 | f + 1, done, tm, h, K => match readyN done 0 all with
  | [] => K ⟨tm, h⟩
  | x :: r => allR (x :: r) fun j => match getO all j with
   | some ⟨d, op, _, _, after, g⟩ => gOp P T all tm h d g op fun v0 u0 _ => Zcq v0 fun v => Zer u0 fun u => Zej (fUpOk [] h d g u)
     (fUp d u tm h fun tm1 h1 => fPut d g v tm1 fun tm3 => reS P T all after.toList tm3 h1 (forceN (Nat.lor done (Nat.pow 2 j)) fun done' => GH P T all S f done' tm3 h1 K) S)
   | none => False
def GS (P : Program) (T : Zbc) (all : List Oper) (S : List Nat) (F : Nat) : List Nat → Nat → (Nat → AV) → Zaq → (ASt → Prop) → Prop
 | [], done, tm, h, K => GH P T all S F done tm h K
 | i :: r, done, tm, h, K => match getO all i with
  | some ⟨some d, op, _, _, _, g⟩ => gOp P T all tm h (some d) g op fun v0 u0 _ => Zcq v0 fun v => Zej (noneUp u0) (fPut (some d) g v tm fun tm1 => forceN (Nat.lor done (Nat.pow 2 i)) fun done' => GS P T all S F r done' tm1 h K)
  | _ => False
def Zfq? (all : List Oper) (i : Nat) : Option Nat := match getO all i with
 | some o => o.dst
 | none => none
def statI (i d : Nat) : Nat → List Oper → Bool
 | _, [] => true
 | k, o :: r => (dNotIn (some d) (Zcf o.op) || onE i o.after.toList) && (Nat.beq k i || dNe (some d) o.dst) && statI i d (k + 1) r
theorem statI_spec {i d : Nat} : ∀ {l : List Oper} {s k : Nat} {o : Oper}, statI i d s l = true → l[k]? = some o → (d ∈ Zcf o.op → onE i o.after.toList = true) ∧ (s + k ≠ i → o.dst ≠ some d)
 | [], s, k, o, _, h => by simp at h
 | x :: r, s, 0, o, h, hk => by
   simp at hk; subst hk
   simp only [statI, Bool.and_eq_true, Bool.or_eq_true] at h
   rw [Nat.add_zero]
   refine ⟨fun hm => ?_, fun hne => ?_⟩
   ·rcases h.1.1 with h1 | h1
    ·exact absurd hm (Zfr h1 d rfl)
    ·exact h1
   ·rcases h.1.2 with h1 | h1
    ·exact absurd (Nat.eq_of_beq_eq_true h1) hne
    ·exact dNe_spec h1 d rfl
 | x :: r, s, k + 1, o, h, hk => by
   simp only [statI, Bool.and_eq_true] at h
   have := statI_spec h.2 (k := k) (by simpa using hk)
   rw [show s + (k + 1) = s + 1 + k by omega]
   exact this
def laterB (all : List Oper) (lk : List Nat) : List Nat → Bool
 | [] => true
 | i :: r => dNotIn (Zfq? all i) lk && laterB all lk r
def statS (all : List Oper) : List Nat → Bool
 | [] => true
 | i :: r => (match getO all i with
  | some o => (match o.dst with | some d => statI i d 0 all && laterB all (Zcf o.op) r && noI [(i, 0, 0)] (r.map fun j => (j, 0, 0)) | none => false)
  | none => false) && statS all r
def edgesA : Nat → List Oper → Bool
 | _, [] => true
 | k, o :: r => edgesOk k o.after.toList && edgesA (k + 1) r
theorem edgesA_spec : ∀ {l : List Oper} {s k : Nat} {o : Oper}, edgesA s l = true → l[k]? = some o → ∀ e ∈ o.after.toList, Region.binds .any e = true → e.on < s + k
 | [], s, k, o, _, h => by simp at h
 | x :: r, s, 0, o, h, hk => by
   simp at hk; subst hk
   simp only [edgesA, Bool.and_eq_true] at h
   exact edgesOk_spec h.1
 | x :: r, s, k + 1, o, h, hk => by
   simp only [edgesA, Bool.and_eq_true] at h
   rw [show s + (k + 1) = s + 1 + k by omega]
   exact edgesA_spec h.2 (by simpa using hk)
structure Stat (all : List Oper) (S : List Nat) : Prop where
 gs : Zas all = []
 edge : ∀ (k : Nat) (o : Oper), all[k]? = some o → ∀ e ∈ o.after, Region.binds .any e = true → e.on < k
 dst : ∀ i ∈ S, ∃ o d, all[i]? = some o ∧ o.dst = some d ∧ ∀ (k : Nat) (x : Oper), all[k]? = some x → (d ∈ Zcf x.op → onE i x.after.toList = true) ∧ (k ≠ i → x.dst ≠ some d)
theorem Zfn : ∀ {l : List Oper} {k : Nat} {o : Oper}, Zas l = [] → l[k]? = some o → o.guard = none := by
 intro l k o h hk
 cases hg : o.guard with
 | none => rfl
 | some g =>
  obtain ⟨j, b⟩ := g
  have := Zda hk hg
  rw [h] at this; cases this
structure Inv (P : Program) (T : Zbc) (all : List Oper) (S : List Nat) (listed : Array Bool) (done : Nat) (τ σ : ASt) : Prop where
 sz : listed.size = all.length
 dn : ∀ k, k < all.length → (tb done k = true ↔ listed.getD k false = true ∨ k ∈ S)
 hh : τ.h = σ.h
 tm : ∀ t, (∀ i ∈ S, listed.getD i false = false → ∀ o, all[i]? = some o → o.dst ≠ some t) → τ.tm t = σ.tm t
 re : ∀ i ∈ S, listed.getD i false = false → ∀ o d, all[i]? = some o → o.dst = some d → evOp P T all σ o fun e => gval none e.val = σ.tm d ∧ e.up = .none
theorem appS_plain {k : Nat} {o : Oper} {v : AV} {u : Up} {σ : ASt} (h : Zas all = []) (hg : o.guard = none) : appS all k o v u σ = (upS (Zaw o) u σ).put o.dst (gval none v) := by
 unfold appS; rw [h, hg]; rfl
theorem upS_tm_of (f : Id) (u : Up) {σ σ' : ASt} {t : Nat} (h : σ.tm t = σ'.tm t) : (upS f u σ).tm t = (upS f u σ').tm t := by
 cases u <;> simp only [upS] <;> first | exact h | rw [h]
theorem upS_h_of (f : Id) (u : Up) {σ σ' : ASt} (h : σ.h = σ'.h) : (upS f u σ).h = (upS f u σ').h := by
 cases u <;> simp only [upS] <;> first | exact h | rw [h]
theorem tb_or (n m k : Nat) : tb (Nat.lor n (Nat.pow 2 m)) k = (tb n k || Nat.beq m k) := by
 rw [tb_eq, tb_eq]
 have : (n ||| 2 ^ m).testBit k = (n.testBit k || Nat.beq m k) := by
  rw [Nat.testBit_or, Nat.testBit_two_pow]
  congr 1
  cases h : Nat.beq m k with
  | true => exact decide_eq_true (Nat.eq_of_beq_eq_true h)
  | false => exact decide_eq_false fun e => by subst e; simp at h
 exact this
set_option linter.unnecessarySimpa false in
theorem soft_sound (hT : TOk P T) (hr : RegOk n all) {S : List Nat} (hS : Stat all S) {K : ASt → Prop} {Q : Exit → Act → World → Prop} {ι0 : Zai} {w0 : World}
    (hQ : ∀ σ ι' a' w', K σ → StG all.toArray n X σ ι' a' w' → Zbo L X ι0 ι' w0 w' → Q .normal a' w') :
    ∀ (fuel F : Nat) (listed : Array Bool) (done : Nat) (τ σ : ASt) (ι : Zai) (a : Act) (w : World), Inv P T all S listed done τ σ → left (fun k => listed.getD k false) all.length ≤ fuel →
      GH P T all S F done σ.tm σ.h K → StG all.toArray n X τ ι a w → Zbo L X ι0 ι w0 w → wpAny P .any all.toArray Q fuel listed a w := by
  have fin : ∀ (F : Nat) (listed : Array Bool) (done : Nat) (τ σ : ASt) (ι : Zai) (a : Act) (w : World), Inv P T all S listed done τ σ →
      GH P T all S F done σ.tm σ.h K → StG all.toArray n X τ ι a w → Zbo L X ι0 ι w0 w → Region.ready .any all.toArray listed = [] → Q .normal a w := by
    intro F listed done τ σ ι a w I hg s hgo hrd
    have all1 : ∀ k, k < all.length → listed.getD k false = true := by
      intro k
      induction k using Nat.strongRecOn with
      | ind k ih =>
        intro hk
        cases e : listed.getD k false with
        | true => rfl
        | false =>
          have ho : all[k]? = some all[k] := by simp [hk]
          have : k ∈ Region.ready .any all.toArray listed := by
            rw [mem_ready]
            refine ⟨?_, all[k], by simpa using ho, fun e' he' hb => ?_⟩
            · have hk' : k < listed.size := by rw [I.sz]; exact hk
              simp [hk'] at e ⊢; exact e
            · have hlt := hS.edge k _ ho e' he' hb
              exact ih e'.on hlt (by omega)
          rw [hrd] at this; cases this
    have hts : τ = σ := by
      have h1 : ∀ t, τ.tm t = σ.tm t := fun t => I.tm t fun i hi hl o ho => by
        have hlt : i < all.length := by
          rcases Nat.lt_or_ge i all.length with h' | h'
          · exact h'
          · simp [List.getElem?_eq_none h'] at ho
        rw [all1 i hlt] at hl; cases hl
      have h2 := I.hh
      obtain ⟨t1, g1⟩ := τ; obtain ⟨t2, g2⟩ := σ
      simp only at h1 h2
      rw [funext h1, h2]
    subst hts
    cases F with
    | zero => exact hg.elim
    | succ F =>
      simp only [GH] at hg
      rw [readyN_nil (fun k hk => by rw [Nat.zero_add]; exact (I.dn k hk).2 (.inl (all1 k hk)))] at hg
      exact hQ _ ι a w hg s hgo
  intro fuel
  induction fuel with
  | zero =>
    intro F listed done τ σ ι a w I hl hg s hgo
    have h0 := left_zero all.length (by omega : left (fun k => listed.getD k false) all.length = 0)
    have hrd : Region.ready .any all.toArray listed = [] := by
      apply List.eq_nil_iff_forall_not_mem.2
      intro j hj
      obtain ⟨h1, o, ho, _⟩ := mem_ready.1 hj
      have hj' : j < all.length := by
        have := (Array.getElem?_eq_some_iff.1 ho).1
        simpa using this
      have := h0 j hj'
      have hk' : j < listed.size := by rw [I.sz]; exact hj'
      simp [hk'] at h1 this
      rw [h1] at this; cases this
    exact ⟨hrd, fin F listed done τ σ ι a w I hg s hgo hrd⟩
  | succ fuel ih =>
    intro F listed done τ σ ι a w I hl hg s hgo
    refine ⟨fin F listed done τ σ ι a w I hg s hgo, fun i hi => ?_⟩
    obtain ⟨h1, o, ho, hedge⟩ := mem_ready.1 hi
    have ho' : all[i]? = some o := by simpa using ho
    have hi' : i < all.length := by
      have := (Array.getElem?_eq_some_iff.1 ho).1
      simpa using this
    have hil : i < listed.size := by rw [I.sz]; exact hi'
    have hpi : listed.getD i false = false := by simp [hil] at h1 ⊢; exact h1
    have hgd := Zfn hS.gs ho'
    have hset : ∀ k, (listed.setIfInBounds i true).getD k false = (bif Nat.beq i k then true else listed.getD k false) := by
      intro k
      by_cases e : k = i
      · subst e; simp [hil]
      · rw [getD_set_ne false (Ne.symm e)]
        have : Nat.beq i k = false := by rw [Bool.eq_false_iff]; intro h; exact e (Nat.eq_of_beq_eq_true h).symm
        rw [this]; rfl
    have hold : ∀ k, (listed.setIfInBounds i true).getD k false = false → listed.getD k false = false ∧ k ≠ i := fun k hk => by
      rw [hset] at hk
      cases e : Nat.beq i k with
      | true => rw [e] at hk; cases hk
      | false => rw [e] at hk; exact ⟨hk, fun h => by subst h; simp at e⟩
    have hplus : (fun k => (listed.setIfInBounds i true).getD k false) = plus (fun k => listed.getD k false) i := by
      funext k; rw [hset]; rfl
    have hleft : left (fun k => (listed.setIfInBounds i true).getD k false) all.length ≤ fuel := by
      rw [hplus]
      have := left_plus (p := fun k => listed.getD k false) hpi all.length hi'
      omega
    have look : ∀ t ∈ Zcf o.op, τ.tm t = σ.tm t := fun t ht => I.tm t fun i' hi2 hl2 o2 ho2 hd2 => by
      obtain ⟨o3, d, h3, h4, h5⟩ := hS.dst i' hi2
      rw [ho2] at h3; cases h3
      rw [hd2] at h4; cases h4
      obtain ⟨e, he, hb, hon⟩ := onE_spec ((h5 i o ho').1 ht)
      have := hedge e (by simpa using he) hb
      rw [hon, hl2] at this; cases this
    by_cases hiS : i ∈ S
    · obtain ⟨o3, d, h3, h4, h5⟩ := hS.dst i hiS
      rw [ho'] at h3; cases h3
      have h6 := I.re i hiS hpi o d ho' h4
      have h7 := evOp_look (σ' := τ) hgd look I.hh h6
      obtain ⟨e, ⟨he1, he2⟩, hloc⟩ := Ze3 h7
      have hn : Next1 P T all i o τ fun τ' => τ' = τ.put (some d) (σ.tm d) := by
        unfold Next1
        refine hloc τ ⟨fun _ _ => rfl, fun _ _ => rfl, fun _ _ => rfl, fun _ => rfl, fun _ => rfl⟩ _ ⟨by rw [he2]; rfl, ?_⟩
        rw [appS_plain hS.gs hgd, he1, he2, h4]; rfl
      refine Zdm (L := L) hT hr s ho' hn (fun τ' ι' a' w' hτ hs hg' => ?_)
      subst hτ
      refine ih F _ done _ σ ι' a' w' ⟨by simp [I.sz], fun k hk => ?_, by rw [put_h]; exact I.hh, fun t ht => ?_, fun i2 hi2 hl2 o2 d2 ho2 hd2 => I.re i2 hi2 (hold i2 hl2).1 o2 d2 ho2 hd2⟩ hleft hg hs (hgo.trans hg')
      · rw [I.dn k hk, hset]
        cases e2 : Nat.beq i k with
        | true => have := Nat.eq_of_beq_eq_true e2; subst this; simp [hiS]
        | false => rfl
      · rw [put_tm]
        split
        · rename_i e2; cases e2; rfl
        · rename_i hne
          refine I.tm t fun i2 hi2 hl2 o2 ho2 hd2 => ?_
          by_cases e2 : i2 = i
          · subst e2
            rw [ho'] at ho2; cases ho2
            rw [h4] at hd2; exact hne hd2
          · refine ht i2 hi2 ?_ o2 ho2 hd2
            rw [hset]
            have : Nat.beq i i2 = false := by rw [Bool.eq_false_iff]; intro h; exact e2 (Nat.eq_of_beq_eq_true h).symm
            rw [this]; exact hl2
    · cases F with
      | zero => exact hg.elim
      | succ F =>
        have hmem : i ∈ readyN done 0 all := by
          have := mem_readyN (done := done) (l := all) (s := 0) (k := i) ho' (by
            rw [Nat.zero_add]
            cases e : tb done i with
            | false => rfl
            | true => rcases (I.dn i hi').1 e with h | h
                      · rw [hpi] at h; cases h
                      · exact (hiS h).elim) (edgesIn_of fun e he hb => by
              have := hedge e (by simpa using he) hb
              exact (I.dn e.on (by have := hS.edge i o ho' e (by simpa using he) hb; omega)).2 (.inl this))
          rwa [Nat.zero_add] at this
        simp only [GH] at hg
        cases hrn : readyN done 0 all with
        | nil => rw [hrn] at hmem; cases hmem
        | cons x r =>
          rw [hrn] at hg hmem
          have hst := allR_mem hg hmem
          simp only [getO_eq, ho'] at hst
          obtain ⟨d, op, ty, pos, after, g⟩ := o
          simp only at hst hgd
          subst hgd
          have h1 := gOp_evOp (o := ⟨d, op, ty, pos, after, none⟩) hst
          have h2 := evOp_look (σ' := τ) rfl look I.hh h1
          obtain ⟨e, he, hloc⟩ := Ze3 h2
          rw [Zbr, Zfp] at he
          cases hb : fUpOk [] σ.h d none e.up with
          | false => rw [hb] at he; exact he.elim
          | true =>
            rw [hb] at he
            simp only [Zej] at he
            rw [fUp_eq ⟨d, op, ty, pos, after, none⟩] at he
            have e3 : ∀ (τ : ASt) (k : (Nat → AV) → Prop), fPut d none e.val τ.tm k = k (τ.put d (gval none e.val)).tm := by
              intro τ k; unfold fPut; cases d with
              | none => rfl
              | some d => simp only [Zbr]; rfl
            rw [e3] at he
            have hhe : (upS (Zaw ⟨d, op, ty, pos, after, none⟩) e.up ⟨σ.tm, σ.h⟩).h = ((upS (Zaw ⟨d, op, ty, pos, after, none⟩) e.up ⟨σ.tm, σ.h⟩).put d (gval none e.val)).h := (put_h _ _ _).symm
            rw [hhe] at he
            obtain ⟨hgn, hre⟩ := reS_spec he
            rw [forceN_eq] at hgn
            have hn : Next1 P T all i ⟨d, op, ty, pos, after, none⟩ τ fun τ' => τ' = (upS (Zaw ⟨d, op, ty, pos, after, none⟩) e.up τ).put d (gval none e.val) := by
              unfold Next1
              refine hloc τ ⟨fun _ _ => rfl, fun _ _ => rfl, fun _ _ => rfl, fun _ => rfl, fun _ => rfl⟩ _ ⟨?_, appS_plain hS.gs rfl⟩
              rw [← hb, ← I.hh]
              unfold upOk fUpOk; rw [hS.gs]; cases e.up <;> rfl
            refine Zdm (L := L) hT hr s ho' hn (fun τ' ι' a' w' hτ hs hg' => ?_)
            subst hτ
            refine ih F _ _ _ ((upS (Zaw ⟨d, op, ty, pos, after, none⟩) e.up ⟨σ.tm, σ.h⟩).put d (gval none e.val)) ι' a' w' ⟨by simp [I.sz], fun k hk => ?_, ?_, fun t ht => ?_, fun i2 hi2 hl2 o2 d2 ho2 hd2 => ?_⟩ hleft hgn hs (hgo.trans hg')
            · rw [tb_or, hset, Bool.or_eq_true, I.dn k hk]
              cases e2 : Nat.beq i k with
              | true => simp
              | false => simp
            · rw [put_h, put_h]; exact upS_h_of _ _ I.hh
            · rw [put_tm, put_tm]
              split
              · rfl
              · refine upS_tm_of _ _ (I.tm t fun i2 hi2 hl2 o2 ho2 hd2 => ?_)
                by_cases e2 : i2 = i
                · subst e2; exact hiS hi2
                · refine ht i2 hi2 ?_ o2 ho2 hd2
                  rw [hset]
                  have : Nat.beq i i2 = false := by rw [Bool.eq_false_iff]; intro h; exact e2 (Nat.eq_of_beq_eq_true h).symm
                  rw [this]; exact hl2
            · refine hre i2 hi2 ?_ o2 d2 ho2 hd2
              cases e2 : onE i2 after.toList with
              | false => rfl
              | true =>
                obtain ⟨e4, he4, hb4, hon⟩ := onE_spec e2
                have := hedge e4 (by simpa using he4) hb4
                rw [hon, (hold i2 hl2).1] at this; cases this
theorem laterB_spec {lk : List Nat} : ∀ {r : List Nat} {i : Nat} {o : Oper} {d : Nat}, laterB all lk r = true → i ∈ r → all[i]? = some o → o.dst = some d → d ∉ lk
 | [], i, _, _, _, h, _, _ => by cases h
 | x :: r, i, o, d, h, hi, ho, hd => by
   simp only [laterB, Bool.and_eq_true] at h
   rcases List.mem_cons.1 hi with e | e
   ·subst e
    have : Zfq? all i = some d := by unfold Zfq?; rw [getO_eq, ho]; exact hd
    exact Zfr h.1 d this
   ·exact laterB_spec h.2 e ho hd
theorem statS_later : ∀ {S : List Nat} {S1 : List Nat} {i : Nat} {r : List Nat}, statS all S = true → S = S1 ++ i :: r → ∀ i' ∈ S1, i' ≠ i ∧ ∀ o' o d, all[i']? = some o' → all[i]? = some o → o.dst = some d → d ∉ Zcf o'.op
 | _, [], i, r, _, _, i', hi' => by cases hi'
 | S, x :: S1, i, r, h, he, i', hi' => by
   subst he
   simp only [List.cons_append, statS, Bool.and_eq_true] at h
   rcases List.mem_cons.1 hi' with e | e
   ·subst e
    have h1 := h.1
    rw [getO_eq] at h1
    cases ho : all[i']? with
    | none => rw [ho] at h1; cases h1
    | some o0 =>
     rw [ho] at h1
     simp only at h1
     cases hd : o0.dst with
     | none => rw [hd] at h1; cases h1
     | some d0 =>
      rw [hd] at h1
      simp only [Bool.and_eq_true] at h1
      refine ⟨fun e => ?_, fun o' o d h2 h3 h4 => ?_⟩
      ·subst e
       exact noI_spec h1.2 _ (List.mem_cons_self ..) (by simp)
      ·cases h2
       exact laterB_spec h1.1.2 (by simp) h3 h4
   ·exact statS_later h.2 rfl i' e
theorem stat_of {S : List Nat} (hg : Zas all = []) (he : edgesA 0 all = true) (hs : statS all S = true) : Stat all S := by
 refine ⟨hg, fun k o ho e hm hb => by have := edgesA_spec he ho e (by simpa using hm) hb; omega, ?_⟩
 clear he
 induction S with
 | nil => intro i hi; cases hi
 | cons x r ih =>
  intro i hi
  have h0 := hs
  simp only [statS, Bool.and_eq_true] at hs
  rcases List.mem_cons.1 hi with e | e
  ·subst e
   have h1 := hs.1
   rw [getO_eq] at h1
   cases ho : all[i]? with
   | none => rw [ho] at h1; cases h1
   | some o0 =>
    rw [ho] at h1
    simp only at h1
    cases hd : o0.dst with
    | none => rw [hd] at h1; cases h1
    | some d0 =>
     rw [hd] at h1
     simp only [Bool.and_eq_true] at h1
     refine ⟨o0, d0, rfl, hd, fun k x hx => ?_⟩
     have := statI_spec h1.1.1 hx
     rw [Nat.zero_add] at this
     exact this
  ·exact ih hs.2 i e
theorem GS_ex {S : List Nat} (hS : Stat all S) (hs : statS all S = true) {F : Nat} {K : ASt → Prop} {σ0 : ASt} : ∀ (r S1 : List Nat) (done : Nat) (tm : Nat → AV), S = S1 ++ r →
  (∀ k, k < all.length → (tb done k = true ↔ k ∈ S1)) → (∀ t, (∀ i ∈ S1, ∀ o, all[i]? = some o → o.dst ≠ some t) → σ0.tm t = tm t) →
  (∀ i ∈ S1, ∀ o d, all[i]? = some o → o.dst = some d → evOp P T all ⟨tm, σ0.h⟩ o fun e => gval none e.val = tm d ∧ e.up = .none) →
  GS P T all S F r done tm σ0.h K → ∃ done' σ, Inv P T all S (Array.replicate all.length false) done' σ0 σ ∧ GH P T all S F done' σ.tm σ.h K
 | [], S1, done, tm, hsp, h1, h2, h3, hg => by
   rw [List.append_nil] at hsp
   subst hsp
   have hno : ∀ k, (Array.replicate all.length false).getD k false = false := fun k => none_getD _ k
   refine ⟨done, ⟨tm, σ0.h⟩, ⟨by simp, fun k hk => ?_, rfl, fun t ht => h2 t fun i hi => ht i hi (hno i), fun i hi _ o d ho hd => h3 i hi o d ho hd⟩, hg⟩
   rw [h1 k hk, hno k]; simp
 | i :: r, S1, done, tm, hsp, h1, h2, h3, hg => by
   simp only [GS] at hg
   split at hg
   ·rename_i d op ty pos after g hgo
    rw [getO_eq] at hgo
    have hgd := Zfn hS.gs hgo
    simp only at hgd
    subst hgd
    have h4 := gOp_evOp (o := ⟨some d, op, ty, pos, after, none⟩) hg
    obtain ⟨e, he, hloc⟩ := Ze3 h4
    rw [Zbr] at he
    cases hb : noneUp e.up with
    | false => rw [hb] at he; exact he.elim
    | true =>
     rw [hb] at he
     simp only [Zej, fPut] at he
     rw [Zbr, forceN_eq] at he
     have hup : e.up = .none := by cases hu : e.up <;> rw [hu] at hb <;> first | rfl | cases hb
     have hiS : i ∈ S := by rw [hsp]; simp
     obtain ⟨o3, d3, g1, g2, g3⟩ := hS.dst i hiS
     rw [hgo] at g1; cases g1
     cases g2
     have hself : d ∉ Zcf op := fun hm => by
      obtain ⟨e5, he5, hb5, hon⟩ := onE_spec ((g3 i _ hgo).1 hm)
      have := hS.edge i _ hgo e5 (by simpa using he5) hb5
      omega
     have hupd : ∀ t, t ≠ d → updT tm d (gval none e.val) t = tm t := fun t ht => by
      unfold updT
      have : Nat.beq t d = false := by rw [Bool.eq_false_iff]; intro h; exact ht (Nat.eq_of_beq_eq_true h)
      have h' : Nat.beq d t = false := by rw [Bool.eq_false_iff]; intro h; exact ht (Nat.eq_of_beq_eq_true h).symm
      simp only [h', cond_false]
     have hupdd : updT tm d (gval none e.val) d = gval none e.val := by unfold updT; simp
     have hlat := statS_later hs hsp
     refine GS_ex hS hs r (S1 ++ [i]) _ (updT tm d (gval none e.val)) (by rw [hsp]; simp) (fun k hk => ?_) (fun t ht => ?_) (fun i' hi' o' d' ho' hd' => ?_) he
     ·rw [tb_or, Bool.or_eq_true, h1 k hk, List.mem_append, List.mem_singleton]
      constructor
      ·rintro (h | h)
       ·exact .inl h
       ·exact .inr (Nat.eq_of_beq_eq_true h).symm
      ·rintro (h | h)
       ·exact .inl h
       ·subst h; exact .inr (by simp)
     ·have hne : t ≠ d := fun e6 => by subst e6; exact ht i (by simp) _ hgo rfl
      rw [hupd t hne]
      exact h2 t fun i' hi' => ht i' (List.mem_append_left _ hi')
     ·rcases List.mem_append.1 hi' with h | h
      ·obtain ⟨l1, l2⟩ := hlat i' h
       have hd1 : d ∉ Zcf o'.op := l2 o' _ d ho' hgo rfl
       have hd2 : d' ≠ d := fun e6 => by subst e6; exact (g3 i' o' ho').2 l1 hd'
       rw [hupd d' hd2]
       refine evOp_look (σ := ⟨tm, σ0.h⟩) (σ' := ⟨updT tm d (gval none e.val), σ0.h⟩) (Zfn hS.gs ho') (fun t ht => ?_) rfl (h3 i' h o' d' ho' hd')
       exact hupd t fun e6 => by subst e6; exact hd1 ht
      ·rw [List.mem_singleton] at h
       subst h
       rw [hgo] at ho'; cases ho'
       cases hd'
       have : evOp P T all ⟨tm, σ0.h⟩ ⟨some d, op, ty, pos, after, none⟩ fun e' => gval none e'.val = gval none e.val ∧ e'.up = .none := hloc _ ⟨fun _ _ => rfl, fun _ _ => rfl, fun _ _ => rfl, fun _ => rfl, fun _ => rfl⟩ _ ⟨rfl, hup⟩
       rw [hupdd]
       refine evOp_look (σ := ⟨tm, σ0.h⟩) (σ' := ⟨updT tm d (gval none e.val), σ0.h⟩) rfl (fun t ht => ?_) rfl this
       exact hupd t fun e6 => by subst e6; exact hself ht
   ·exact hg.elim
def GSS (P : Program) (T : Zbc) (all : List Oper) (S : List Nat) (F : Nat) (σ : ASt) (K : ASt → Prop) : Prop := match σ with
 | ⟨tm, h⟩ => GS P T all S F S 0 tm h K
theorem AWp_soft (hT : TOk P T) (hm : P.follows .mixedOrders = true) {id : Nat} {ops : Array Oper} {Q : Exit → ASt → Prop} {σ : ASt} (hr : regOk n ops.toList = true) (S : List Nat) (F : Nat)
  (hg : Zas ops.toList = []) (he : edgesA 0 ops.toList = true) (hs : statS ops.toList S = true) (hh : GSS P T ops.toList S F σ (Q .normal)) : AWp P n L (.region id ops true) Q σ := by
 obtain ⟨tm, h⟩ := σ
 refine AWp.regionAny hm hr (fun X ι a w s => ?_)
 have hS := stat_of hg he hs
 have hh' : GS P T ops.toList S F S 0 tm h (Q .normal) := hh
 obtain ⟨done, σ, I, hG⟩ := GS_ex (σ0 := ⟨tm, h⟩) hS hs S [] 0 tm rfl (fun k _ => by simp [tb_eq]) (fun t _ => rfl) (fun i hi => by cases hi) hh'
 have s1 := drawn_St s (w.drawn + 1)
 have key := soft_sound (n := n) (X := X) hT (Zed hr) hS (Q := fun e a' w' => e = .normal ∧ ∃ τ ι', Q .normal τ ∧ St n X τ ι' a' w' ∧ Zbo L X ι ι' w w') (ι0 := ι) (w0 := w) (fun σ ι' a' w' hK s' hgo =>
   ⟨rfl, _, ι', hK, ⟨s'.sim, s'.defers, s'.size, fun t => s'.tm t (fun j b v e => by have := (s'.gd t j b v e).1; simp [hg] at this)⟩, hgo⟩)
  ops.size F (Array.replicate ops.toList.length false) done ⟨tm, h⟩ σ ι a { w with drawn := w.drawn + 1 } I
  (by have := left_le (fun k => (Array.replicate ops.toList.length false).getD k false) ops.toList.length; simpa using this)
  hG (StG.of_St s1) ⟨⟨drawn_fr _ w _, fun _ h => .inl h⟩, fun _ _ _ _ _ h => h⟩
 simpa using key
end
def HG (P : Program) (L : List Id) (f : FuncId) (H0 : Zaq) (args : List AV) (r : AV) (H1 : Zaq) : Prop :=
 Zeb P f ∧ ∀ (X : Nat → Prop) (ι : Zai) (w : World) (vals : List Value), Sim X H0 ι w → Vs w (Own X ι) args ι vals →
  Calls P f vals.toArray w fun e w' => ∃ v ι', e = .returned v ∧ Sim X H1 ι' w' ∧ V w' (Own X ι') r ι' v ∧ Zbo L X ι ι' w w'
section
variable {P : Program} {T : Zbc} {n : Nat} {X : Nat → Prop} {σ : ASt} {ι : Zai} {a : Act} {w : World}
end
section
variable {P : Program} {T : Zbc} {n : Nat} {X : Nat → Prop} {σ : ASt} {ι : Zai} {a : Act} {w : World}
end
theorem HG.ren {P : Program} {L : List Id} {f : FuncId} {H0 H0' H1 : Zaq} {args args' : List AV} {r : AV} (h : HG P L f H0 args r H1) (src : Id → Option Id) (inj : ∀ j j' i, (H0 j).isSome = true → (H0 j').isSome = true → src j = some i → src j' = some i → j = j')
  (hh : ∀ j b, H0 j = some b → HOk src H0' H0 j b) (ha : GVs src H0' H0 args' args) (hL : ∀ i ∈ L, pinId i = true → (H0 i).isSome = true ∧ src i = some i) : HG P L f H0' args' r H1 := by
 refine ⟨h.1, fun X ι w vals s hV => ?_⟩
 refine (h.2 X (plc src H0 ι) w vals (sim_gen s src inj hh) (ha.Vs s hV)).mono ?_
 rintro e w' ⟨v, ι', rfl, s1, hv, hg⟩
 refine ⟨v, ι', rfl, s1, hv, ⟨⟨hg.goes.fr.weak (fun b hm => plc_mine hm), fun b hm => (hg.goes.ext b hm).imp plc_mine id⟩, fun i hi hp l hl e => ?_⟩⟩
 obtain ⟨g1, g2⟩ := hL i hi hp
 refine hg.pin i hi hp l hl ?_
 cases e6 : H0 i with
 | none => rw [e6] at g1; cases g1
 | some b => rw [plc_some e6 g2]; exact e
section
variable {P : Program} {n : Nat} {X : Nat → Prop} {σ : ASt} {ι : Zai} {a : Act} {w : World}
end
end Dv
namespace Dv
open Go
theorem tE {R : Rows} {σ : ASt} {t : Nat} {y : AV} {r : List (Nat × AV)} (h : Zbj R.ren (σ.tm t) = y) (hr : TLes R σ r) : TLes R σ ((t, y) :: r) := .cons (.eq h) hr
theorem nB {a b : Nat} (h : Nat.ble a b = true) : a ≤ b := Nat.le_of_ble_eq_true h
theorem uA {a : List Oper} {s : ASt} {g : Option (Nat × Bool)} {p q : Prop} (h : Zac a s g p) (k : q) : Zac a s g p ∧ q := ⟨h, k⟩
abbrev Rg {P : Program} {n : Nat} {L : List Id} {ops : Array Oper} {b : Bool} {Q : Exit → ASt → Prop} {σ : ASt} (k : Nat) : Prop := AWp P n L (.region k ops b) Q σ
theorem GVs.i {src : Id → Option Id} {h h' : Zaq} {x y : AV} {xs ys : List AV} (hr : GVs src h h' xs ys) (hv : GV src h h' x y := by exact .imm rfl) : GVs src h h' (x :: xs) (y :: ys) := .cons hv hr
theorem TLg.i {src : Id → Option Id} {h h' : Zaq} {tm : Nat → AV} {t : Nat} {y : AV} {r : List (Nat × AV)} (hr : TLg src h h' tm r) (hv : GV src h h' (tm t) y := by exact .imm rfl) : TLg src h h' tm ((t, y) :: r) := .cons hv hr
theorem Ress.i {h : Zaq} {rd : List Id} {x y : AV} {xs ys : List AV} (hr : Ress h rd xs ys) (hv : Res h rd x y := by exact .imm rfl) : Ress h rd (x :: xs) (y :: ys) := .cons hv hr
theorem Rels.i {h : Zaq} {x y : AV} {xs ys : List AV} (hr : Rels h xs ys) (hv : Rel h x y := by exact .imm rfl) : Rels h (x :: xs) (y :: ys) := .cons hv hr
end Dv
