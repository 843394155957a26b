/- Theory: functions of the program walked on abstract states. It says nothing of a program. -/
import Derived.Test.YtmanpbgaihdalaaDvc2
import Derived.Maps.Range
set_option linter.unusedVariables false
set_option linter.unusedSimpArgs false
set_option linter.unnecessarySimpa false
namespace Dv
open Go
theorem places_mine {R : Rows} {ι : Places} {b : Nat} (h : Mine (R.places ι) b) : Mine ι b := by
  obtain ⟨j, c, e⟩ := h
  simp only [Rows.places] at e
  split at e
  · exact ⟨_, c, e⟩
  · cases e
  · cases e
theorem places_keep {R : Rows} {ι : Places} {X : Nat → Prop} {w : World} : Keep w w (Own X ι) (Own X (R.places ι)) :=
  ⟨Nat.le_refl _, fun _ _ _ => rfl, fun _ _ h => h.imp id places_mine⟩
def FV (R : Rows) (h : AHeap) (x y : AV) : Prop := ∀ (X : Nat → Prop) (ι : Places) (w : World) (v : Value), Sim X h ι w → V w (Own X ι) x ι v → V w (Own X (R.places ι)) y (R.places ι) v
def FVs (R : Rows) (h : AHeap) (xs ys : List AV) : Prop := ∀ (X : Nat → Prop) (ι : Places) (w : World), Sim X h ι w → (∀ vs, Vs w (Own X ι) xs ι vs → Vs w (Own X (R.places ι)) ys (R.places ι) vs) ∧ ∀ b o, Vc w (Own X ι) xs ι b o → Vc w (Own X (R.places ι)) ys (R.places ι) b o ∧ xs.length = ys.length
theorem FV.le {R : Rows} {h : AHeap} {x y : AV} (hn : nodupI R.news = true) (ht : TLe R x y) : FV R h x y := fun _ _ _ _ _ hv => V_keep places_keep _ _ (Sub.refl _) (ht.V hn hv)
theorem FV.wk {R : Rows} {h : AHeap} {x y : AV} (hi : immD x = true) (hw : Wk x y) : FV R h x y := fun _ _ _ _ _ hv => hw.V (immD_V _ _ hi (V_keep places_keep _ _ (Sub.refl _) hv))
theorem FV.imm {R : Rows} {h : AHeap} {x : AV} (hi : immD x = true) : FV R h x x := FV.wk hi .refl
theorem FVs.nil {R : Rows} {h : AHeap} : FVs R h [] [] := fun _ _ _ _ => ⟨fun vs hv => by simp only [Vs] at hv ⊢; exact hv, fun b o hv => by simp only [Vc] at hv ⊢; exact ⟨trivial, trivial⟩⟩
theorem FVs.cons {R : Rows} {h : AHeap} {x y : AV} {xs ys : List AV} (h1 : FV R h x y) (h2 : FVs R h xs ys) : FVs R h (x :: xs) (y :: ys) := by
  intro X ι w s
  refine ⟨fun vs hv => ?_, fun b o hv => ?_⟩
  · simp only [Vs] at hv ⊢
    obtain ⟨v, r, e, hv1, hv2⟩ := hv
    exact ⟨v, r, e, h1 X ι w v s hv1, (h2 X ι w s).1 r hv2⟩
  · simp only [Vc] at hv ⊢
    obtain ⟨⟨v, e, h0, hv1⟩, hv2⟩ := hv
    obtain ⟨h3, h4⟩ := (h2 X ι w s).2 b (o + 1) hv2
    exact ⟨⟨⟨v, e, h0, h1 X ι w v s hv1⟩, h3⟩, by simp [h4]⟩
theorem FV.agg {R : Rows} {h : AHeap} {xs ys : List AV} (hs : FVs R h xs ys) : FV R h (.agg xs) (.agg ys) := by
  intro X ι w v s hv
  simp only [V] at hv ⊢
  obtain ⟨a, e, h1⟩ := hv
  exact ⟨a, e, (hs X ι w s).1 a h1⟩
theorem FV.frz {R : Rows} {h : AHeap} {i : Id} {sz st len m k : Nat} {f g : Nat → List AV} (hh : h i = some (.row true sz k f)) (hi : memI i R.olds = false) (hk : st + len ≤ k) (hm : len = m) (hf : ∀ x, x < len → Wks (f (st + x)) (g x)) :
    FV R h (.rs i sz st len) (.sl sz m g) := by
  intro X ι w v s hv
  subst hm
  simp only [V] at hv ⊢
  cases hl : ι i with
  | none => rw [hl] at hv; exact hv.elim
  | some l =>
    have hb := s.rel i _ l hh hl
    rw [hl] at hv
    cases l with
    | ghost => exact hv.elim
    | nil =>
      simp only at hv
      obtain ⟨e, e1, e2⟩ := hv
      subst e1; subst e2
      exact ⟨none, 0, e, Nat.le_refl _, Nat.zero_le _, .inl rfl⟩
    | «at» b c =>
      simp only at hv
      obtain ⟨p, e, h1, h2, h3⟩ := hv
      refine ⟨some p, c - st, e, by omega, h2, ?_⟩
      by_cases h0 : len = 0
      · exact .inl h0
      · right
        obtain ⟨arr, T, e1, h4, h5, h6⟩ := hb
        have hp : p = ⟨b, st * sz, none⟩ := h3.resolve_left (by omega)
        refine ⟨b, st * sz, by rw [hp], s.lt hl, ?_, fun x hx => ?_⟩
        · rintro (hx | ⟨j, d, ej⟩)
          · exact s.apart i b c hl hx
          · simp only [Rows.places] at ej
            split at ej
            · rename_i i' hi'
              have := s.inj i' i b d c ej hl
              subst this
              have := src_olds hi'
              rw [← memI_iff, hi] at this
              cases this
            · cases ej
            · cases ej
        · have := h6 (st + x) (by omega)
          obtain ⟨hlw, hvw⟩ := (hf x hx).Vc this.2
          refine ⟨by rw [← hlw]; exact this.1, ?_⟩
          rw [← Nat.add_mul]
          exact Vc_keep places_keep _ b _ rfl (Sub.refl _) hvw
def BF (R : Rows) (h : AHeap) (b0 b : ABlock) : Prop := ∀ (X : Nat → Prop) (ι : Places) (w : World) (l : Loc), Sim X h ι w → BRel w (Own X ι) ι b0 l → BRel w (Own X (R.places ι)) (R.places ι) b l
theorem BF.le {R : Rows} {h : AHeap} {b0 b : ABlock} (hn : nodupI R.news = true) (hb : BLe (mapB R.ren b0) b) : BF R h b0 b := by
  intro X ι w l s hr
  refine hb _ _ _ _ ?_
  have := BRel_map (ι' := R.places ι) (ρ := R.ren) (fun a b e => by simp only [Rows.places, (ren_spec hn e).1]) b0 l hr
  exact BRel_keep places_keep (Sub.refl _) _ l (fun _ _ _ => rfl) this
theorem BF.cells {R : Rows} {h : AHeap} {imm : Bool} {sz n n' : Nat} {f g : Nat → List AV} (hn : n' ≤ n) (hf : ∀ i, i < n' → FVs R h (f i) (g i)) : BF R h (.row imm sz n f) (.row false sz n' g) := by
  intro X ι w l s hr
  cases l with
  | ghost => trivial
  | nil => simp only [BRel] at hr ⊢; omega
  | «at» b c =>
    simp only [BRel] at hr ⊢
    obtain ⟨arr, T, h1, h2, h3, h4⟩ := hr
    refine ⟨arr, T, h1, by omega, h3, fun i hi => ?_⟩
    have h5 := h4 i (by omega)
    obtain ⟨h6, h7⟩ := (hf i hi X ι w s).2 b (i * sz) (Vc_weak' imm _ _ _ h5.2)
    exact ⟨by rw [← h7]; exact h5.1, h6⟩
end Dv
namespace Dv
open Go Go.MapKept
section
variable {P : Program} {T : Types} {n : Nat} {L : List Id} {X : Nat → Prop} {all : List Oper}
theorem New.iter (w : World) (m : Option Nat) (s : Nat) (seen : Array Nat) (c : Nat) : New w (w.alloc (.mapIter m s seen c)) :=
  ⟨rfl, rfl, rfl, by simp, fun k hk => Go.RowKit.Below.heap_alloc w _ k hk, fun b => by
    simp only [World.frozen?]
    rcases Nat.lt_trichotomy b.block w.heap.size with h | h | h
    · rw [Go.RowKit.Below.heap_alloc w _ _ h]
    · rw [h, heap_alloc_new, Array.getElem?_eq_none (Nat.le_refl _)]
    · rw [Array.getElem?_eq_none (by omega : w.heap.size ≤ b.block), Array.getElem?_eq_none (by simp; omega)]⟩
variable {σ : ASt} {ι : Places} {a : Act} {w : World}
theorem MOk.entry {κ : MK} {m : List (List Int × Int)} {es : Array MapEntry} {clock : Nat} (h : MOk κ m es clock) {e : MapEntry} (he : e ∈ es.toList) : ∃ k v, (k, v) ∈ m ∧ e.key = keyV κ k ∧ e.val = .int κ.vk v := by
  have : (e.key, e.val) ∈ es.toList.map (fun e => (e.key, e.val)) := List.mem_map.2 ⟨e, he, rfl⟩
  rw [h.kv] at this
  obtain ⟨⟨k, v⟩, h1, h2⟩ := List.mem_map.1 this
  have h3 := Prod.mk.inj h2
  exact ⟨k, v, h1, h3.1.symm, h3.2.symm⟩
end
end Dv
namespace Dv
open Go
mutual
theorem immD_map (ρ : Id → Option Id) : ∀ (x : AV), immD x = true → mapAV ρ x = x
  | .agg cs, h => by simp only [immD] at h; simp only [mapAV]; rw [immD_maps ρ cs h]
  | .tup cs, h => by simp only [immD] at h; simp only [mapAV]; rw [immD_maps ρ cs h]
  | .fn f cs, h => by simp only [immD] at h; simp only [mapAV]; rw [immD_maps ρ cs h]
  | .ifc t x, h => by simp only [immD] at h; simp only [mapAV]; rw [immD_map ρ x h]
  | .rs _ _ _ _, h => by simp only [immD] at h; cases h
  | .rp _ _ _ _, h => by simp only [immD] at h; cases h
  | .bp _ _, h => by simp only [immD] at h; cases h
  | .mp _, h => by simp only [immD] at h; cases h
  | .guard _ _ _, h => by simp only [immD] at h; cases h
  | .any, _ => rfl
  | .int _ _, _ => rfl
  | .bool _, _ => rfl
  | .str _, _ => rfl
  | .sl _ _ _, _ => rfl
  | .nsl, _ => rfl
  | .ip _, _ => rfl
  | .np, _ => rfl
  | .nif, _ => rfl
  | .nfn, _ => rfl
theorem immD_maps (ρ : Id → Option Id) : ∀ (xs : List AV), immDs xs = true → mapAVs ρ xs = xs
  | [], _ => rfl
  | c :: cs, h => by
      simp only [immDs, Bool.and_eq_true] at h
      simp only [mapAVs]
      rw [immD_map ρ c h.1, immD_maps ρ cs h.2]
end
theorem TLe.fn {R : Rows} {g : FuncId} {cap : List AV} (h : immDs cap = true) : TLe R (.fn g cap) (.fn g cap) := .eq (by simp only [mapAV]; rw [immD_maps _ _ h])
theorem immDs_app : ∀ {xs ys : List AV}, immDs xs = true → immDs ys = true → immDs (xs ++ ys) = true
  | [], _, _, h => h
  | c :: cs, ys, h, h2 => by
      simp only [immDs, Bool.and_eq_true] at h
      simp only [List.cons_append, immDs, Bool.and_eq_true]
      exact ⟨h.1, immDs_app h.2 h2⟩
theorem Ress.imms : ∀ {h : AHeap} {rd : List Id} {xs : List AV}, immDs xs = true → Ress h rd xs xs
  | _, _, [], _ => .nil
  | _, _, c :: cs, hi => by
      simp only [immDs, Bool.and_eq_true] at hi
      exact .cons (.imm hi.1) (Ress.imms hi.2)
end Dv
namespace Dv
open Go
theorem kz1 (p : Prop) : (True ∧ p) = p := true_and p
theorem kz2 (p : Prop) : (p ∧ True) = p := and_true p
theorem kz3 (c f : Bool) : (bif c then true else f) = (c || f) := Bool.cond_true_left c f
theorem kz4 (c f : Bool) : (bif c then false else f) = (!c && f) := Bool.cond_false_left c f
theorem kz5 (c t : Bool) : (bif c then t else true) = (!c || t) := Bool.cond_true_right c t
theorem kz6 (c t : Bool) : (bif c then t else false) = (c && t) := Bool.cond_false_right c t
theorem kz7 (a b : Bool) : ((a || b) = true) = (a = true ∨ b = true) := Bool.or_eq_true a b
theorem kz8 (a b : Bool) : ((a && b) = true) = (a = true ∧ b = true) := Bool.and_eq_true a b
theorem kz9 {a b : Bool} : (a || b) = false ↔ a = false ∧ b = false := Bool.or_eq_false_iff
theorem kz10 {a b : Bool} : (a && b) = false ↔ a = false ∨ b = false := Bool.and_eq_false_iff
theorem kz11 {α : Sort _} {a b : α} : (bif true then a else b) = a := cond_true a b
theorem kz12 {α : Sort _} {a b : α} : (bif false then a else b) = b := cond_false a b
theorem kz13 {a b : Bool} : ((!a) = b) ↔ (a = !b) := Bool.not_eq_eq_eq_not
theorem kz14 : (!true) = false := rfl
theorem kz15 : (!false) = true := rfl
theorem kz16 {p : Prop} [Decidable p] : (decide p = true) = p := decide_eq_true_eq
theorem kz17 {p : Prop} [Decidable p] : decide p = false ↔ ¬p := decide_eq_false_iff_not
theorem kz18 (n : Nat) : (n : Int).toNat = n := Int.toNat_natCast n
theorem kz19 (n : Nat) : 0 + n = n := Nat.zero_add n
theorem kz20 {p : Prop} [Decidable p] : ¬¬p ↔ p := Decidable.not_not
end Dv
namespace Dv
open Go
theorem bigH_one (i : Id) (b : ABlock) (h : AHeap) : bigH [] (lookH [(i, b)]) h = updH h i (some b) := by
  funext j
  simp only [bigH, lookH, updH]
  cases e : idEq i j with
  | true => have := idEq_iff.1 e; subst this; simp [idEq_iff.2 rfl]
  | false =>
    have : idEq j i = false := idEq_false.2 (fun e' => by subst e'; rw [idEq_iff.2 rfl] at e; cases e)
    simp only [this, cond_false, memI]
    cases h j <;> rfl
theorem QC.turn {P : Program} {h : AHeap} {f : FuncId} {args : List AV} {fresh i : Id} {rd : List Id} {b : ABlock} {r : AV} (_ : i ∈ rd) (H : ∀ h' : AHeap, (∀ j ∈ rd, h' j = h j) → QH P h' f args [] (lookH [(i, b)]) r) :
    QC P h f args rd fresh (.put i b) r := by
  refine ⟨(H h (fun _ _ => rfl)).1, (fun e => by cases e), fun h' hh _ X ι w vals hs hv => ?_⟩
  refine ((H h' hh).2 X ι w vals hs hv).mono ?_
  rintro e w' ⟨v, ι', rfl, h1, h2, h3, h4⟩
  refine ⟨v, ι', rfl, ?_, fun y u' hy => ?_, h3, h4⟩
  · rw [bigH_one] at h1; exact h1
  · exact h2 y u' hy
end Dv
namespace Dv
open Go
theorem BLe.boxI {ρ : Id → Option Id} {cs : List AV} (hi : immDs cs = true) : BLe (mapB ρ (boxed cs)) (boxed cs) := by
  have : mapB ρ (boxed cs) = boxed cs := by
    unfold boxed mapB
    cases allB isImm cs with
    | true => rfl
    | false => simp only [cond_false]; rw [immD_maps ρ cs hi]
  rw [this]; exact BLe.refl _
theorem BLe.rowO {ρ : Id → Option Id} {sz : Nat} {f : Nat → List AV} {c : List AV} (h : mapAVs ρ (f 0) = c) : BLe (mapB ρ (.row false sz 1 f)) (.row false sz 1 (fun _ => c)) := by
  refine BLe.rowW (Nat.le_refl _) (fun z hz => ?_)
  match z, hz with
  | 0, _ => exact Wks.of h
end Dv
namespace Dv
open Go
def plc (src : Id → Option Id) (h' : AHeap) (ι : Places) : Places := fun j => match h' j with
  | none => none
  | some _ => match src j with
    | some i => ι i
    | none => some .nil
theorem plc_mine {src : Id → Option Id} {h' : AHeap} {ι : Places} {b : Nat} (h : Mine (plc src h' ι) b) : Mine ι b := by
  obtain ⟨j, c, e⟩ := h
  simp only [plc] at e
  split at e
  · cases e
  · split at e
    · exact ⟨_, c, e⟩
    · cases e
theorem plc_keep {src : Id → Option Id} {h' : AHeap} {ι : Places} {X : Nat → Prop} {w : World} : Keep w w (Own X ι) (Own X (plc src h' ι)) :=
  ⟨Nat.le_refl _, fun _ _ _ => rfl, fun _ _ h => h.imp id plc_mine⟩
def GV (src : Id → Option Id) (h h' : AHeap) (x y : AV) : Prop := ∀ (X : Nat → Prop) (ι : Places) (w : World) (v : Value), Sim X h ι w → V w (Own X ι) x ι v → V w (Own X (plc src h' ι)) y (plc src h' ι) v
inductive GVs (src : Id → Option Id) (h h' : AHeap) : List AV → List AV → Prop where
  | nil : GVs src h h' [] []
  | cons {x y : AV} {xs ys : List AV} (h1 : GV src h h' x y) (hr : GVs src h h' xs ys) : GVs src h h' (x :: xs) (y :: ys)
section
variable {src : Id → Option Id} {h h' : AHeap}
theorem GVs.len : ∀ {xs ys : List AV}, GVs src h h' xs ys → xs.length = ys.length
  | _, _, .nil => rfl
  | _, _, .cons _ hr => by simp [hr.len]
theorem GVs.Vs {X : Nat → Prop} {ι : Places} {w : World} (s : Sim X h ι w) : ∀ {xs ys : List AV} {vs : List Value}, GVs src h h' xs ys → Dv.Vs w (Own X ι) xs ι vs → Dv.Vs w (Own X (plc src h' ι)) ys (plc src h' ι) vs
  | _, _, _, .nil, hv => by simp only [Dv.Vs] at hv ⊢; exact hv
  | _, _, _, .cons h1 hr, hv => by
      simp only [Dv.Vs] at hv ⊢
      obtain ⟨v, r, e, hv1, hv2⟩ := hv
      exact ⟨v, r, e, h1 X ι w v s hv1, hr.Vs s hv2⟩
theorem GVs.Vc {X : Nat → Prop} {ι : Places} {w : World} (s : Sim X h ι w) {b : Nat} : ∀ {xs ys : List AV} {o : Nat}, GVs src h h' xs ys → Dv.Vc w (Own X ι) xs ι b o → Dv.Vc w (Own X (plc src h' ι)) ys (plc src h' ι) b o
  | _, _, _, .nil, hv => by simp only [Dv.Vc]
  | _, _, _, .cons h1 hr, hv => by
      simp only [Dv.Vc] at hv ⊢
      obtain ⟨⟨v, e, h0, hv1⟩, hv2⟩ := hv
      exact ⟨⟨v, e, h0, h1 X ι w v s hv1⟩, hr.Vc s hv2⟩
theorem GV.wk {x y : AV} (hi : immD x = true) (hw : Wk x y) : GV src h h' x y := fun _ _ _ _ _ hv => hw.V (immD_V _ _ hi (V_keep plc_keep _ _ (Sub.refl _) hv))
theorem GV.imm {x : AV} (hi : immD x = true) : GV src h h' x x := GV.wk hi .refl
theorem GV.any {x : AV} : GV src h h' x .any := fun _ _ _ _ _ _ => by simp only [V]
theorem GV.eq {x y : AV} (e : x = y) (hh : GV src h h' x x) : GV src h h' x y := e ▸ hh
theorem GV.int {k : IntKind} {n m : Int} (e : n = m) : GV src h h' (.int k n) (.int k m) := by subst e; exact GV.imm rfl
theorem GV.bool {n m : Bool} (e : n = m) : GV src h h' (.bool n) (.bool m) := by subst e; exact GV.imm rfl
theorem GVs.imm : ∀ {xs : List AV}, immDs xs = true → GVs src h h' xs xs
  | [], _ => .nil
  | _ :: _, hi => by
      simp only [immDs, Bool.and_eq_true] at hi
      exact .cons (GV.imm hi.1) (GVs.imm hi.2)
theorem plc_some {i j : Id} {ι : Places} {b : ABlock} (hj : h' j = some b) (hs : src j = some i) : plc src h' ι j = ι i := by simp only [plc, hj, hs]
theorem GV.rs {i j : Id} {b : ABlock} {sz st n st' m : Nat} (hj : h' j = some b) (hs : src j = some i) (e1 : st = st') (e2 : n = m) : GV src h h' (.rs i sz st n) (.rs j sz st' m) := by
  subst e1; subst e2
  intro X ι w v s hv
  simp only [V] at hv ⊢
  rw [plc_some hj hs]; exact hv
theorem GV.rp {i j : Id} {b : ABlock} {sz st st' k : Nat} (hj : h' j = some b) (hs : src j = some i) (e1 : st = st') : GV src h h' (.rp i sz st k) (.rp j sz st' k) := by
  subst e1
  intro X ι w v s hv
  simp only [V] at hv ⊢
  rw [plc_some hj hs]; exact hv
theorem GV.bp {i j : Id} {b : ABlock} {k : Nat} (hj : h' j = some b) (hs : src j = some i) : GV src h h' (.bp i k) (.bp j k) := by
  intro X ι w v s hv
  simp only [V] at hv ⊢
  rw [plc_some hj hs]; exact hv
theorem GV.mp {i j : Id} {b : ABlock} (hj : h' j = some b) (hs : src j = some i) : GV src h h' (.mp i) (.mp j) := by
  intro X ι w v s hv
  simp only [V] at hv ⊢
  rw [plc_some hj hs]; exact hv
theorem GV.nil {j : Id} {b : ABlock} {sz m : Nat} (hj : h' j = some b) (hs : src j = none) (hm : 0 = m) : GV src h h' .nsl (.rs j sz 0 m) := by
  subst hm
  intro X ι w v s hv
  simp only [V] at hv ⊢
  simp only [plc, hj, hs]
  exact ⟨hv, trivial, trivial⟩
theorem GV.agg {xs ys : List AV} (hs : GVs src h h' xs ys) : GV src h h' (.agg xs) (.agg ys) := fun X ι w v s hv => by
  simp only [V] at hv ⊢
  obtain ⟨a, e, h1⟩ := hv
  exact ⟨a, e, hs.Vs s h1⟩
theorem GV.tup {xs ys : List AV} (hs : GVs src h h' xs ys) : GV src h h' (.tup xs) (.tup ys) := fun X ι w v s hv => by
  simp only [V] at hv ⊢
  obtain ⟨a, e, h1⟩ := hv
  exact ⟨a, e, hs.Vs s h1⟩
theorem GV.fn {f : FuncId} {xs ys : List AV} (hs : GVs src h h' xs ys) : GV src h h' (.fn f xs) (.fn f ys) := fun X ι w v s hv => by
  simp only [V] at hv ⊢
  obtain ⟨a, e, h1⟩ := hv
  exact ⟨a, e, hs.Vs s h1⟩
theorem gone {X : Nat → Prop} {ι : Places} {w : World} (s : Sim X h ι w) {i : Id} {b c : Nat} (hl : ι i = some (.at b c)) (hd : ∀ j, (h' j).isSome = true → src j ≠ some i) : ¬ Own X (plc src h' ι) b := by
  rintro (hx | ⟨j, d, ej⟩)
  · exact s.apart i b c hl hx
  · simp only [plc] at ej
    split at ej
    · cases ej
    · rename_i b' hb'
      split at ej
      · rename_i i' hi'
        have := s.inj i' i b d c ej hl
        subst this
        exact hd j (by rw [hb']; rfl) hi'
      · cases ej
theorem immVc {w : World} {own : Nat → Prop} {ι ι' : Places} : ∀ (xs : List AV) (b o : Nat), immDs xs = true → Vc w own xs ι b o → Vc w own xs ι' b o
  | [], _, _, _, _ => by simp only [Vc]
  | c :: cs, b, o, hi, hv => by
      simp only [immDs, Bool.and_eq_true] at hi
      simp only [Vc] at hv ⊢
      obtain ⟨⟨v, e, h0, h1⟩, h2⟩ := hv
      exact ⟨⟨v, e, h0, immD_V _ _ hi.1 h1⟩, immVc cs b (o + 1) hi.2 h2⟩
theorem GV.frz {i : Id} {imm : Bool} {sz st len m k : Nat} {f g : Nat → List AV} (hd : ∀ j, (h' j).isSome = true → src j ≠ some i) (hh : h i = some (.row imm sz k f)) (hk : st + len ≤ k) (hm : len = m) (hf : ∀ x, x < len → GVs src h h' (f (st + x)) (g x)) (hg : ∀ x, x < len → immDs (g x) = true) :
    GV src h h' (.rs i sz st len) (.sl sz m g) := by
  intro X ι w v s hv
  subst hm
  simp only [V] at hv ⊢
  cases hl : ι i with
  | none => rw [hl] at hv; exact hv.elim
  | some l =>
    have hb := s.rel i _ l hh hl
    rw [hl] at hv
    cases l with
    | ghost => exact hv.elim
    | nil =>
      simp only at hv
      obtain ⟨e, e1, e2⟩ := hv
      subst e1; subst e2
      exact ⟨none, 0, e, Nat.le_refl _, Nat.zero_le _, .inl rfl⟩
    | «at» b c =>
      simp only at hv
      obtain ⟨p, e, h1, h2, h3⟩ := hv
      refine ⟨some p, c - st, e, by omega, h2, ?_⟩
      by_cases h0 : len = 0
      · exact .inl h0
      · right
        obtain ⟨arr, T, e1, h4, h5, h6⟩ := hb
        have hp : p = ⟨b, st * sz, none⟩ := h3.resolve_left (by omega)
        refine ⟨b, st * sz, by rw [hp], s.lt hl, gone s hl hd, fun x hx => ?_⟩
        have h7 := h6 (st + x) (by omega)
        have h8 := (hf x hx).Vc s (Vc_weak' imm _ _ _ h7.2)
        refine ⟨by rw [← (hf x hx).len]; exact h7.1, ?_⟩
        rw [← Nat.add_mul]
        exact immVc _ _ _ (hg x hx) h8
end
def GB (src : Id → Option Id) (h h' : AHeap) (b0 b : ABlock) : Prop := ∀ (X : Nat → Prop) (ι : Places) (w : World) (l : Loc), Sim X h ι w → BRel w (Own X ι) ι b0 l → BRel w (Own X (plc src h' ι)) (plc src h' ι) b l
section
variable {src : Id → Option Id} {h h' : AHeap}
theorem GB.row {imm imm' : Bool} {sz n n' : Nat} {f g : Nat → List AV} (hn : n' ≤ n) (hf : ∀ i, i < n' → GVs src h h' (f i) (g i)) (hg : imm' = true → ∀ i, i < n' → immDs (g i) = true) : GB src h h' (.row imm sz n f) (.row imm' sz n' g) := by
  intro X ι w l s hr
  cases l with
  | ghost => trivial
  | nil => simp only [BRel] at hr ⊢; omega
  | «at» b c =>
    simp only [BRel] at hr ⊢
    obtain ⟨arr, T, h1, h2, h3, h4⟩ := hr
    refine ⟨arr, T, h1, by omega, h3, fun i hi => ?_⟩
    have h5 := h4 i (by omega)
    have h6 := (hf i hi).Vc s (Vc_weak' imm _ _ _ h5.2)
    refine ⟨by rw [← (hf i hi).len]; exact h5.1, ?_⟩
    cases imm' with
    | true => exact immVc _ _ _ (hg rfl i hi) h6
    | false => exact h6
theorem GB.rowI {imm imm' : Bool} {sz n n' : Nat} {f g : Nat → List AV} (hn : n' ≤ n) (hf : ∀ i, i < n' → immDs (f i) = true ∧ f i = g i) : GB src h h' (.row imm sz n f) (.row imm' sz n' g) :=
  GB.row hn (fun i hi => by rw [← (hf i hi).2]; exact GVs.imm (hf i hi).1) (fun _ i hi => by rw [← (hf i hi).2]; exact (hf i hi).1)
end
theorem Weak.gen {n : Nat} {L : List Id} {σ τ : ASt} (src : Id → Option Id) (inj : ∀ j j' i, (τ.h j).isSome = true → (τ.h j').isSome = true → src j = some i → src j' = some i → j = j')
    (hh : ∀ j b, τ.h j = some b → match src j with | some i => ∃ b0, σ.h i = some b0 ∧ GB src σ.h τ.h b0 b | none => ∃ imm sz g, b = .row imm sz 0 g)
    (ht : ∀ t, GV src σ.h τ.h (σ.tm t) (τ.tm t)) (hL : ∀ i ∈ L, pinId i = true → (τ.h i).isSome = true ∧ src i = some i) : Weak n L σ τ := by
  intro X ι a w s
  refine ⟨plc src τ.h ι, ⟨⟨fun j => ?_, fun j blk l e1 e2 => ?_, fun j j' b c d e1 e2 => ?_, fun j b c e => ?_, s.sim.below⟩, s.defers, s.size, fun t => ht t X ι w _ s.sim (s.tm t)⟩, ⟨⟨Fr.refl _ _, fun b h => .inl (plc_mine h)⟩, fun i hi hp l _ e => ?_⟩⟩
  · simp only [plc]
    cases e : τ.h j with
    | none => rfl
    | some b =>
      have := hh j b e
      cases hs : src j with
      | none => rfl
      | some i =>
        rw [hs] at this
        obtain ⟨b0, h1, _⟩ := this
        simp only [s.sim.dom i, h1]; rfl
  · have := hh j blk e1
    simp only [plc, e1] at e2
    cases hs : src j with
    | none =>
      rw [hs] at this e2
      obtain ⟨imm, sz, g, rfl⟩ := this
      cases e2; rfl
    | some i =>
      rw [hs] at this e2
      obtain ⟨b0, h1, h2⟩ := this
      exact h2 X ι w l s.sim (s.sim.rel i b0 l h1 e2)
  · simp only [plc] at e1 e2
    split at e1
    · cases e1
    · rename_i x hx
      split at e2
      · cases e2
      · rename_i y hy
        split at e1
        · rename_i i hi
          split at e2
          · rename_i i' hi'
            have := s.sim.inj i i' b c d e1 e2
            subst this
            exact inj j j' i (by rw [hx]; rfl) (by rw [hy]; rfl) hi hi'
          · cases e2
        · cases e1
  · simp only [plc] at e
    split at e
    · cases e
    · split at e
      · exact s.sim.apart _ b c e
      · cases e
  · obtain ⟨h1, h2⟩ := hL i hi hp
    cases hb : τ.h i with
    | none => rw [hb] at h1; cases h1
    | some b => simp only [plc, hb, h2]; exact e
end Dv
namespace Dv
open Go
def famC (k : Nat) (g : Nat → Nat → Option ABlock) : AHeap := fun j => bif Nat.beq j.1 k then g j.2.1 j.2.2 else none
def orH (a b : AHeap) : AHeap := fun j => match a j with
  | some x => some x
  | none => b j
def noH : AHeap := fun _ => none
def mkF (tl : List (Nat × AV)) (hl : List (Id × ABlock)) (F : AHeap) : ASt := ⟨lookT tl, orH (lookH hl) F⟩
def srcL : List (Id × Option Id) → Id → Option Id
  | [], j => some j
  | (c, o) :: r, j => bif idEq c j then o else srcL r j
theorem srcL_spec : ∀ (S : List (Id × Option Id)) (j : Id), (∃ o, (j, o) ∈ S ∧ srcL S j = o) ∨ (j ∉ S.map (·.1) ∧ srcL S j = some j)
  | [], j => .inr ⟨by simp, rfl⟩
  | (c, o) :: r, j => by
      simp only [srcL]
      cases e : idEq c j with
      | true => have := idEq_iff.1 e; subst this; exact .inl ⟨o, by simp, rfl⟩
      | false =>
        have hne := idEq_false.1 e
        rcases srcL_spec r j with ⟨o', h1, h2⟩ | ⟨h1, h2⟩
        · exact .inl ⟨o', by simp [h1], h2⟩
        · exact .inr ⟨by simp only [List.map_cons, List.mem_cons, not_or]; exact ⟨Ne.symm hne, h1⟩, h2⟩
def tgts : List (Id × Option Id) → List Id
  | [] => []
  | (_, some i) :: r => i :: tgts r
  | (_, none) :: r => tgts r
theorem mem_tgts {S : List (Id × Option Id)} {j i : Id} (h : (j, some i) ∈ S) : i ∈ tgts S := by
  induction S with
  | nil => cases h
  | cons p r ih =>
    obtain ⟨c, o⟩ := p
    rcases List.mem_cons.1 h with e | e
    · cases e; simp [tgts]
    · cases o with
      | none => simp only [tgts]; exact ih e
      | some i' => simp only [tgts]; exact List.mem_cons_of_mem _ (ih e)
theorem tgts_one {S : List (Id × Option Id)} (hn : nodupI (tgts S) = true) {j j' i : Id} (h : (j, some i) ∈ S) (h' : (j', some i) ∈ S) : j = j' := by
  induction S with
  | nil => cases h
  | cons p r ih =>
    obtain ⟨c, o⟩ := p
    cases o with
    | none =>
      simp only [tgts] at hn
      rcases List.mem_cons.1 h with e | e
      · cases e
      · rcases List.mem_cons.1 h' with e' | e'
        · cases e'
        · exact ih hn e e'
    | some i0 =>
      simp only [tgts, nodupI, Bool.and_eq_true] at hn
      rcases List.mem_cons.1 h with e | e
      · cases e
        rcases List.mem_cons.1 h' with e' | e'
        · cases e'; rfl
        · exact absurd (mem_tgts e') (idNotIn_spec hn.1)
      · rcases List.mem_cons.1 h' with e' | e'
        · cases e'; exact absurd (mem_tgts e) (idNotIn_spec hn.1)
        · exact ih hn.2 e e'
theorem srcL_inj {S : List (Id × Option Id)} {h' : AHeap} (hn : nodupI (tgts S) = true) (hf : ∀ i ∈ tgts S, h' i = none ∨ i ∈ S.map (·.1)) (j j' i : Id) (e1 : (h' j).isSome = true) (e2 : (h' j').isSome = true) (h1 : srcL S j = some i) (h2 : srcL S j' = some i) : j = j' := by
  rcases srcL_spec S j with ⟨o, a, b⟩ | ⟨a, b⟩
  · rcases srcL_spec S j' with ⟨o', a', b'⟩ | ⟨a', b'⟩
    · rw [h1] at b; rw [h2] at b'; subst b; subst b'
      exact tgts_one hn a a'
    · rw [h1] at b; subst b
      rw [h2] at b'; cases b'
      rcases hf _ (mem_tgts a) with h | h
      · rw [h] at e2; cases e2
      · exact absurd h a'
  · rcases srcL_spec S j' with ⟨o', a', b'⟩ | ⟨a', b'⟩
    · rw [h2] at b'; subst b'
      rw [h1] at b; cases b
      rcases hf _ (mem_tgts a') with h | h
      · rw [h] at e1; cases e1
      · exact absurd h a
    · rw [h1] at b; rw [h2] at b'; cases b; cases b'; rfl
inductive HLs (src : Id → Option Id) (h h' : AHeap) : List (Id × ABlock) → Prop where
  | nil : HLs src h h' []
  | old {j i : Id} {b0 b : ABlock} {r : List (Id × ABlock)} (hs : src j = some i) (hi : h i = some b0) (hb : GB src h h' b0 b) (hr : HLs src h h' r) : HLs src h h' ((j, b) :: r)
  | new {j : Id} {imm : Bool} {sz : Nat} {g : Nat → List AV} {r : List (Id × ABlock)} (hs : src j = none) (hr : HLs src h h' r) : HLs src h h' ((j, .row imm sz 0 g) :: r)
def HOk (src : Id → Option Id) (h h' : AHeap) (j : Id) (b : ABlock) : Prop := match src j with
  | some i => ∃ b0, h i = some b0 ∧ GB src h h' b0 b
  | none => ∃ imm sz g, b = .row imm sz 0 g
theorem HLs.spec {src : Id → Option Id} {h h' : AHeap} {j : Id} {b : ABlock} : ∀ {l : List (Id × ABlock)}, HLs src h h' l → lookH l j = some b → HOk src h h' j b
  | _, .nil, e => by cases e
  | _, .old (j := k) hs hi hb hr, e => by
      simp only [lookH] at e
      cases e1 : idEq k j with
      | true => have := idEq_iff.1 e1; subst this; rw [e1] at e; cases e; unfold HOk; rw [hs]; exact ⟨_, hi, hb⟩
      | false => rw [e1] at e; exact hr.spec e
  | _, .new (j := k) hs hr, e => by
      simp only [lookH] at e
      cases e1 : idEq k j with
      | true => have := idEq_iff.1 e1; subst this; rw [e1] at e; cases e; unfold HOk; rw [hs]; exact ⟨_, _, _, rfl⟩
      | false => rw [e1] at e; exact hr.spec e
inductive TLg (src : Id → Option Id) (h h' : AHeap) (tm : Nat → AV) : List (Nat × AV) → Prop where
  | nil : TLg src h h' tm []
  | cons {t : Nat} {y : AV} {r : List (Nat × AV)} (hv : GV src h h' (tm t) y) (hr : TLg src h h' tm r) : TLg src h h' tm ((t, y) :: r)
theorem TLg.spec {src : Id → Option Id} {h h' : AHeap} {tm : Nat → AV} : ∀ {l : List (Nat × AV)} (t : Nat), TLg src h h' tm l → GV src h h' (tm t) (lookT l t)
  | [], _, _ => GV.any
  | (u, y) :: r, t, .cons hv hr => by
      simp only [lookT]
      cases e : Nat.beq u t with
      | true => have := Nat.eq_of_beq_eq_true e; subst this; exact hv
      | false => exact hr.spec t
theorem Weak.fam {n : Nat} {L : List Id} {σ : ASt} {tl : List (Nat × AV)} {hl : List (Id × ABlock)} {F : AHeap} (S : List (Id × Option Id)) (hn : nodupI (tgts S) = true) (hf : ∀ i ∈ tgts S, orH (lookH hl) F i = none ∨ i ∈ S.map (·.1))
    (ht : TLg (srcL S) σ.h (orH (lookH hl) F) σ.tm tl) (hh : HLs (srcL S) σ.h (orH (lookH hl) F) hl) (hF : ∀ j b, F j = some b → HOk (srcL S) σ.h (orH (lookH hl) F) j b)
    (hL : ∀ i ∈ L, pinId i = true → (orH (lookH hl) F i).isSome = true ∧ srcL S i = some i) : Weak n L σ (mkF tl hl F) := by
  refine Weak.gen (τ := mkF tl hl F) (srcL S) (srcL_inj hn hf) (fun j b e => ?_) (fun t => ht.spec t) hL
  have e' : orH (lookH hl) F j = some b := e
  have : HOk (srcL S) σ.h (orH (lookH hl) F) j b := by
    unfold orH at e'
    cases e1 : lookH hl j with
    | some x => rw [e1] at e'; cases e'; exact hh.spec e1
    | none => rw [e1] at e'; exact hF j b e'
  exact this
def HF (P : Program) (f : FuncId) (args : List AV) (r : AV) (h1 : AHeap) : Prop :=
  Callable P f ∧ ∀ (X : Nat → Prop) (w : World) (vals : List Value), (∀ b, X b → b < w.heap.size) → Vs w X args ι0 vals →
    Calls P f vals.toArray w fun e w' => ∃ v ι', e = .returned v ∧ Fr (fun _ => False) w w' ∧ Sim X h1 ι' w' ∧ (∀ b, Mine ι' b → w.heap.size ≤ b) ∧ V w' (Own X ι') r ι' v
def LeavesF (T : Types) (fn : Func) (r : AV) (h1 : AHeap) (e : Exit) (τ : ASt) : Prop := match e with
  | .ret | .normal => ∃ xs src, retAll T τ fn.results.toList = some xs ∧ (∀ j j' i, (h1 j).isSome = true → (h1 j').isSome = true → src j = some i → src j' = some i → j = j') ∧ (∀ j b, h1 j = some b → HOk src τ.h h1 j b) ∧ GV src τ.h h1 (retAV xs) r
  | _ => False
theorem sim_gen {X : Nat → Prop} {h h' : AHeap} {ι : Places} {w : World} (s : Sim X h ι w) (src : Id → Option Id) (inj : ∀ j j' i, (h' j).isSome = true → (h' j').isSome = true → src j = some i → src j' = some i → j = j')
    (hh : ∀ j b, h' j = some b → HOk src h h' j b) : Sim X h' (plc src h' ι) w := by
  have st : St 0 X ⟨fun _ => .any, h⟩ ι { tmps := #[], defers := [] } w := ⟨s, rfl, rfl, fun t => by simp only [V]⟩
  obtain ⟨_, s', _⟩ : ∃ ι', St 0 X ⟨fun _ => .any, h'⟩ ι' { tmps := #[], defers := [] } w ∧ ι' = plc src h' ι := by
    refine ⟨_, ⟨?_, rfl, rfl, fun t => by simp only [V]⟩, rfl⟩
    refine ⟨fun j => ?_, fun j blk l e1 e2 => ?_, fun j j' b c d e1 e2 => ?_, fun j b c e => ?_, s.below⟩
    · simp only [plc]
      cases e : h' j with
      | none => rfl
      | some b =>
        have := hh j b e
        unfold HOk at this
        cases hs : src j with
        | none => rfl
        | some i =>
          rw [hs] at this
          obtain ⟨b0, h1, _⟩ := this
          simp only [s.dom i, h1]; rfl
    · have := hh j blk e1
      unfold HOk at this
      simp only [plc] at e2
      have e1' : h' j = some blk := e1
      rw [e1'] at e2
      cases hs : src j with
      | none =>
        rw [hs] at this e2
        obtain ⟨imm, sz, g, rfl⟩ := this
        cases e2; rfl
      | some i =>
        rw [hs] at this e2
        obtain ⟨b0, h1, h2⟩ := this
        exact h2 X ι w l s (s.rel i b0 l h1 e2)
    · simp only [plc] at e1 e2
      split at e1
      · cases e1
      · rename_i x hx
        split at e2
        · cases e2
        · rename_i y hy
          split at e1
          · rename_i i hi
            split at e2
            · rename_i i' hi'
              have := s.inj i i' b c d e1 e2
              subst this
              exact inj j j' i (by rw [hx]; rfl) (by rw [hy]; rfl) hi hi'
            · cases e2
          · cases e1
    · simp only [plc] at e
      split at e
      · cases e
      · split at e
        · exact s.apart _ b c e
        · cases e
  subst_vars
  exact s'.sim
theorem HF_intro {P : Program} {T : Types} (hT : TOk P T) {f : FuncId} {fn : Func} {c : Code} {args : List AV} {r : AV} {h1 : AHeap} (hf : P.funcs[f]? = some fn) (hb : fn.body = some c) (hname : (fn.name == "runtime.NumGoroutine") = false) (hn : args.length ≤ fn.ntmps)
    (h : AWp P fn.ntmps [] c (LeavesF T fn r h1) (entry args)) : HF P f args r h1 := by
  refine ⟨⟨fn, hf, by rw [hb]; rfl, hname⟩, fun X w vals hX hV => ?_⟩
  refine AWp.calls hf hb h (entry_St (n := fn.ntmps) hX hV hn) ?_ (fun _ _ h => h)
  rintro e τ ι' a' w' hq hs hg
  have hfr : Fr (fun _ => False) w w' := hg.goes.fr.weak (fun x hx => by
    obtain ⟨i, c, e⟩ := hx
    cases e)
  have hnew : ∀ b, Mine ι' b → w.heap.size ≤ b := fun b hb => by
    rcases hg.goes.ext b hb with ⟨i, d, e⟩ | h
    · cases e
    · exact h
  have fin : (∃ xs src, retAll T τ fn.results.toList = some xs ∧ (∀ j j' i, (h1 j).isSome = true → (h1 j').isSome = true → src j = some i → src j' = some i → j = j') ∧ (∀ j b, h1 j = some b → HOk src τ.h h1 j b) ∧ GV src τ.h h1 (retAV xs) r) →
      a'.defers = [] ∧ ∃ v, (results fn a'.tmps).run P w' = .ok v w' ∧ ∃ v' ι', Ending.returned v = .returned v' ∧ Fr (fun _ => False) w w' ∧ Sim X h1 ι' w' ∧ (∀ b, Mine ι' b → w.heap.size ≤ b) ∧ V w' (Own X ι') r ι' v' := by
    rintro ⟨xs, src, e1, e2, e3, e4⟩
    obtain ⟨v, h3, h4⟩ := results_ok (P := P) hT hs e1
    exact ⟨hs.defers, v, h3, v, plc src h1 ι', rfl, hfr, sim_gen hs.sim src e2 e3, fun b hb => hnew b (plc_mine hb), e4 X ι' w' v hs.sim h4⟩
  cases e with
  | ret => exact fin hq
  | normal => exact fin hq
  | _ => exact hq.elim
theorem HF.fc {P : Program} {f : FuncId} {args : List AV} {r y : AV} {h1 : AHeap} (h : HF P f args r h1) (hr : Rel h1 r y) : FC P f args y := by
  refine ⟨h.1, fun X w vals hX hV => ?_⟩
  refine (h.2 X w vals hX hV).mono ?_
  rintro e w' ⟨v, ι', rfl, h2, h3, _, h5⟩
  exact ⟨v, rfl, h2, hr X ι' w' v h3 h5⟩
theorem QH.ofF {P : Program} {h : AHeap} {f : FuncId} {args : List AV} {r : AV} {h1 : AHeap} (hc : HF P f args r h1) (hi : immDs args = true) (hfree : ∀ i, (h1 i).isSome = true → h i = none) : QH P h f args [] h1 r := by
  refine ⟨hc.1, fun X ι w vals s hV => ?_⟩
  refine (hc.2 (Own X ι) w vals (fun b hb => s.own_lt hb) (immD_Vs _ _ hi hV)).mono ?_
  rintro e w' ⟨v, ι', rfl, hfr, s', hnew, hv⟩
  let κ : Places := fun j => match h1 j with
    | some _ => ι' j
    | none => ι j
  have κ1 : ∀ {j}, (h1 j).isSome = true → κ j = ι' j := fun {j} e => by
    simp only [κ]; cases hb : h1 j with
    | none => rw [hb] at e; cases e
    | some b => rfl
  have κ0 : ∀ {j}, h1 j = none → κ j = ι j := fun {j} e => by simp only [κ, e]
  have hmine : ∀ b, Mine κ b → Mine ι b ∨ Mine ι' b := by
    rintro b ⟨j, c, e⟩
    cases hb : h1 j with
    | none => rw [κ0 hb] at e; exact .inl ⟨j, c, e⟩
    | some x => rw [κ1 (by rw [hb]; rfl)] at e; exact .inr ⟨j, c, e⟩
  have sub : Sub ι κ := fun j l e => by
    cases hb : h1 j with
    | none => rw [κ0 hb]; exact e
    | some x =>
      have := s.lost (hfree j (by rw [hb]; rfl))
      rw [this] at e; cases e
  have sub' : Sub ι' κ := fun j l e => by
    cases hb : h1 j with
    | none => have := s'.lost hb; rw [this] at e; cases e
    | some x => rw [κ1 (by rw [hb]; rfl)]; exact e
  have k : Keep w w' (Own X ι) (Own X κ) := ⟨hfr.size, fun b hb _ => hfr.block b hb (fun h => h), fun b hb h => h.imp id (fun hm => (hmine b hm).resolve_right (fun h2 => by have := hnew b h2; omega))⟩
  have k' : Keep w' w' (Own (Own X ι) ι') (Own X κ) := ⟨Nat.le_refl _, fun _ _ _ => rfl, fun b _ h => by
    rcases h with h | h
    · exact .inl (.inl h)
    · rcases hmine b h with h2 | h2
      · exact .inl (.inr h2)
      · exact .inr h2⟩
  refine ⟨v, κ, rfl, ⟨fun j => ?_, fun j blk l e1 e2 => ?_, fun j j' b c d e1 e2 => ?_, fun j b c e => ?_, fun b hb => Nat.lt_of_lt_of_le (s.below b hb) hfr.size⟩, fun y u' hy => V_keep k _ _ sub hy, V_keep k' _ _ sub' hv, ⟨hfr.weak (fun _ h => h.elim), fun b hb => (hmine b hb).imp id (hnew b)⟩⟩
  · simp only [bigH]
    cases hb : h1 j with
    | none => rw [κ0 hb, s.dom j]; simp only [memI, cond_false]; cases h j <;> rfl
    | some x => rw [κ1 (by rw [hb]; rfl), s'.dom j, hb]
  · simp only [bigH] at e1
    cases hb : h1 j with
    | some x =>
      rw [hb] at e1; cases e1
      rw [κ1 (by rw [hb]; rfl)] at e2
      exact BRel_keep k' sub' _ _ (fun _ _ _ => rfl) (s'.rel j _ l hb e2)
    | none =>
      rw [hb] at e1
      rw [κ0 hb] at e2
      simp only [memI, cond_false] at e1
      cases hh : h j with
      | none => rw [hh] at e1; cases e1
      | some b0 =>
        rw [hh] at e1
        simp only [Option.map_some, Option.some.injEq] at e1
        subst e1
        refine BRel_keep k sub _ _ (fun b c hl => ?_) (s.rel j b0 l hh e2)
        subst hl
        exact hfr.block b (s.lt e2) (fun h => h)
  · cases hb : h1 j with
    | none =>
      rw [κ0 hb] at e1
      cases hb' : h1 j' with
      | none => rw [κ0 hb'] at e2; exact s.inj _ _ _ _ _ e1 e2
      | some x =>
        rw [κ1 (by rw [hb']; rfl)] at e2
        have := s.lt e1; have := hnew b ⟨_, _, e2⟩; omega
    | some x =>
      rw [κ1 (by rw [hb]; rfl)] at e1
      cases hb' : h1 j' with
      | none =>
        rw [κ0 hb'] at e2
        have := s.lt e2; have := hnew b ⟨_, _, e1⟩; omega
      | some x' => rw [κ1 (by rw [hb']; rfl)] at e2; exact s'.inj _ _ _ _ _ e1 e2
  · cases hb : h1 j with
    | none => rw [κ0 hb] at e; exact s.apart _ _ _ e
    | some x => rw [κ1 (by rw [hb]; rfl)] at e; exact fun hx => s'.apart _ _ _ e (.inl hx)
end Dv
namespace Dv
open Go
def notSrc (S : List (Id × Option Id)) (i : Id) : List (Id × ABlock) → Bool
  | [] => true
  | (j, _) :: r => (match srcL S j with | some i' => !(idEq i' i) | none => true) && notSrc S i r
theorem hd_of {S : List (Id × Option Id)} {F : AHeap} {i : Id} : ∀ {hl : List (Id × ABlock)}, notSrc S i hl = true → (∀ j, (F j).isSome = true → srcL S j ≠ some i) → ∀ j, (orH (lookH hl) F j).isSome = true → srcL S j ≠ some i := by
  intro hl hn hF j hj
  unfold orH at hj
  cases e : lookH hl j with
  | none => rw [e] at hj; exact hF j hj
  | some b =>
    clear hj
    induction hl with
    | nil => cases e
    | cons p r ih =>
      obtain ⟨k, c⟩ := p
      simp only [notSrc, Bool.and_eq_true] at hn
      simp only [lookH] at e
      cases e1 : idEq k j with
      | true =>
        have := idEq_iff.1 e1; subst this
        intro e2
        rw [e2] at hn
        simp [idEq_iff.2 rfl] at hn
      | false => rw [e1] at e; exact ih hn.2 e
theorem hd_no {S : List (Id × Option Id)} {i : Id} {hl : List (Id × ABlock)} (hn : notSrc S i hl = true) : ∀ j, (orH (lookH hl) noH j).isSome = true → srcL S j ≠ some i := hd_of hn (fun _ h => by cases h)
theorem noF {P : Id → ABlock → Prop} : ∀ j b, noH j = some b → P j b := fun _ _ h => by cases h
theorem lt0 {P : Nat → Prop} : ∀ x, x < 0 → P x := fun x h => absurd h (Nat.not_lt_zero x)
theorem ltS {P : Nat → Prop} {n : Nat} (h0 : P 0) (h : ∀ x, x < n → P (x + 1)) : ∀ x, x < n + 1 → P x := fun x hx => match x, hx with
  | 0, _ => h0
  | x + 1, hx => h x (Nat.lt_of_succ_lt_succ hx)
theorem GB.one {src : Id → Option Id} {h h' : AHeap} {imm imm' : Bool} {sz : Nat} {f g : Nat → List AV} (hf : GVs src h h' (f 0) (g 0)) (hg : imm' = true → immDs (g 0) = true) : GB src h h' (.row imm sz 1 f) (.row imm' sz 1 g) :=
  GB.row (Nat.le_refl _) (ltS hf lt0) (fun e => ltS (hg e) lt0)
end Dv
namespace Dv
open Go
theorem GVs.upd {src : Id → Option Id} {h h' : AHeap} {F : Nat → List AV} {K x : Nat} {C ys : List AV} (h1 : x = K → GVs src h h' C ys) (h2 : x ≠ K → GVs src h h' (F x) ys) : GVs src h h' (updR F K C x) ys := by
  unfold updR
  cases e : Nat.beq K x with
  | true => exact h1 (Nat.eq_of_beq_eq_true e).symm
  | false => exact h2 (fun h => by subst h; simp at e)
theorem GVs.eqI {src : Id → Option Id} {h h' : AHeap} {xs ys : List AV} (hi : immDs ys = true) (e : xs = ys) : GVs src h h' xs ys := by subst e; exact GVs.imm hi
end Dv
namespace Dv
open Go
theorem fAV {x y : AV} {k : AV → Prop} (e : x = y) (h : forceAV y k) : forceAV x k := e ▸ h
theorem orH_some {a b : AHeap} {j : Id} {x : ABlock} (h : orH a b j = some x) : a j = some x ∨ (a j = none ∧ b j = some x) := by
  unfold orH at h
  cases e : a j with
  | none => rw [e] at h; exact .inr ⟨rfl, h⟩
  | some y => rw [e] at h; exact .inl h
theorem famC_some {k : Nat} {g : Nat → Nat → Option ABlock} {j : Id} {x : ABlock} (h : famC k g j = some x) : ∃ p q, j = (k, p, q) ∧ g p q = some x := by
  obtain ⟨a, p, q⟩ := j
  unfold famC at h
  simp only at h
  cases e : Nat.beq a k with
  | false => rw [e] at h; cases h
  | true => have := Nat.eq_of_beq_eq_true e; subst this; rw [e] at h; exact ⟨p, q, rfl, h⟩
theorem HOk.mk {src : Id → Option Id} {h h' : AHeap} {j i : Id} {b0 b : ABlock} (hs : src j = some i) (hi : h i = some b0) (hb : GB src h h' b0 b) : HOk src h h' j b := by
  unfold HOk; rw [hs]; exact ⟨b0, hi, hb⟩
end Dv
namespace Dv
open Go
theorem GV.cc {src : Id → Option Id} {h h' : AHeap} {x y x' y' : AV} (ex : x = x') (ey : y = y') (hv : GV src h h' x' y') : GV src h h' x y := ex ▸ ey ▸ hv
end Dv
namespace Dv
open Go
theorem HF.weak {P : Program} {f : FuncId} {args : List AV} {r r' : AV} {h1 h2 : AHeap} (h : HF P f args r h1) (src : Id → Option Id) (inj : ∀ j j' i, (h2 j).isSome = true → (h2 j').isSome = true → src j = some i → src j' = some i → j = j')
    (hh : ∀ j b, h2 j = some b → HOk src h1 h2 j b) (hv : GV src h1 h2 r r') : HF P f args r' h2 := by
  refine ⟨h.1, fun X w vals hX hV => ?_⟩
  refine (h.2 X w vals hX hV).mono ?_
  rintro e w' ⟨v, ι', rfl, a1, a2, a3, a4⟩
  exact ⟨v, plc src h2 ι', rfl, a1, sim_gen a2 src inj hh, fun b hb => a3 b (plc_mine hb), hv X ι' w' v a2 a4⟩
theorem some_inj (j j' i : Id) (h1 : some j = some i) (h2 : some j' = some i) : j = j' := by cases h1; cases h2; rfl
end Dv
namespace Dv
open Go
section
variable {P : Program} {T : Types} {n : Nat} {L : List Id} {X : Nat → Prop} {all : List Oper} {σ : ASt} {ι : Places} {a : Act} {w : World}
end
end Dv
