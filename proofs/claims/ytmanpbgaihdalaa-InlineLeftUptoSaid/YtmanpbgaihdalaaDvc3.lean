/- Theory: functions of the program walked on abstract states. It says nothing of a program. -/
import Derived.Test.YtmanpbgaihdalaaDvc2
import Derived.Maps.Range
set_option linter.unusedVariables false
set_option linter.unusedSimpArgs false
set_option linter.unnecessarySimpa false
namespace Dv
open Go
section
variable {P : Program} {n : Nat} {L : List Id}
/-- Ways that meet again: what holds behind a piece of code, said of a family of states. -/
theorem AWp_join {α : Type} {x y : Code} {Q : Exit → ASt → Prop} {σ : ASt} (S : α → ASt) (I : α → Prop)
    (h : AWp P n L x (fun e τ => match e with | .normal => ∃ j, I j ∧ Weak n L τ (S j) | e => Q e τ) σ)
    (h2 : ∀ j, I j → AWp P n L y Q (S j)) : AWp P n L (.seq x y) Q σ := by
  refine AWp_seq (AWp_mono h fun e τ hq => ?_)
  cases e with
  | normal => obtain ⟨j, hj, hw⟩ := hq; exact AWp_weak hw (h2 j hj)
  | ret => exact hq
  | exit i => exact hq
  | _ => exact hq
/-- The same behind a block's end, or wherever code is that goes on normally. -/
theorem AWp_meet {α : Type} {x : Code} {Q : Exit → ASt → Prop} {σ : ASt} (S : α → ASt) (I : α → Prop)
    (h : AWp P n L x (fun e τ => match e with | .normal => ∃ j, I j ∧ Weak n L τ (S j) | e => Q e τ) σ)
    (h2 : ∀ j, I j → ∀ τ, Weak n L τ (S j) → Q .normal τ) : AWp P n L x Q σ := by
  refine AWp_mono h fun e τ hq => ?_
  cases e with
  | normal => obtain ⟨j, hj, hw⟩ := hq; exact h2 j hj τ hw
  | ret => exact hq
  | exit i => exact hq
  | _ => exact hq
end
end Dv
namespace Dv
open Go
/-- What holds at all holds under a guard. -/
theorem uG {all : List Oper} {σ : ASt} {g : Option (Nat × Bool)} {p : Prop} (h : p) : underG all σ g p := by
  cases g with
  | none => exact h
  | some g => exact fun _ => h
end Dv
namespace Dv
open Go
theorem TLe.rsL {R : Rows} {i j : Id} {sz st n m : Nat} (hr : R.ren i = some j) (hn : n = m) : TLe R (.rs i sz st n) (.rs j sz st m) := by
  subst hn; refine .eq ?_; simp only [mapAV, hr]
theorem TLe.nilL {R : Rows} {sz m : Nat} {j : Id} (h : R.src j = some .nil) (hm : 0 = m) : TLe R .nsl (.rs j sz 0 m) := by
  subst hm; exact .nil h
end Dv
namespace Dv
open Go
theorem Res.row {h : AHeap} {rd : List Id} {id : Id} {sz n m k : Nat} {f g : Nat → List AV} (hh : h id = some (.row true sz k f)) (hr : id ∈ rd) (hk : n = k) (hm : n = m) (hf : ∀ i, i < n → f i = g i) : Res h rd (.rs id sz 0 n) (.sl sz m g) :=
  .rs hh hr (by omega) hm (fun i hi => by rw [Nat.zero_add]; exact hf i hi)
theorem Rel.row {h : AHeap} {id : Id} {sz m k n : Nat} {f g : Nat → List AV} (hh : h id = some (.row true sz k f)) (hk : n = k) (hn : n = m) (hm : ∀ i, i < m → f i = g i) : Rel h (.rs id sz 0 n) (.sl sz m g) := by
  subst hn; exact .rsImm hh (by omega) (fun i hi => by rw [Nat.zero_add]; exact hm i hi)
end Dv
namespace Dv
open Go
theorem underG_none {all : List Oper} {σ : ASt} {p : Prop} (h : p) : underG all σ none p := h
theorem underG_some {all : List Oper} {σ : ASt} {g : Nat × Bool} {p : Prop} (h : hypG all σ 4 g → p) : underG all σ (some g) p := h
theorem srcObl_rs {σ : ASt} {id : Id} {sz st m sz' k : Nat} {imm : Bool} {g : Nat → List AV} (h : σ.h id = some (.row imm sz' k g)) (hk : st + m ≤ k) : srcObl σ (.rs id sz st m) := by
  simp only [srcObl, h]; exact hk
theorem srcObl_sl {σ : ASt} {sz m : Nat} {g : Nat → List AV} : srcObl σ (.sl sz m g) := trivial
theorem srcObl_nsl {σ : ASt} : srcObl σ .nsl := trivial
end Dv
namespace Dv
open Go
theorem app_gen {α : Type} (e : α → List AV) (d : α) (sz : Nat) {l : List α} {v : α} {x : Nat} (he : (e v).length = sz) (hx : x < l.length + 1) :
    appR l.length (fun i => e (l.getD i d)) (fun i => rowOf sz (e v) (0 + i)) x = e ((l ++ [v]).getD x d) :=
  app_row1 e d l rfl (fun _ _ => rfl) (by subst he; exact rowOf_one _) hx
end Dv
namespace Dv
open Go
/-- Fewer rows. -/
theorem BLe.less {imm : Bool} {sz n n' : Nat} {f g : Nat → List AV} (hn : n' ≤ n) (h : ∀ i, i < n' → f i = g i) : BLe (.row imm sz n f) (.row imm sz n' g) := by
  intro w own ι l hb
  cases l with
  | ghost => trivial
  | nil => simp only [BRel] at hb ⊢; omega
  | «at» b c =>
    simp only [BRel] at hb ⊢
    obtain ⟨arr, T, h1, h2, h3, h4⟩ := hb
    exact ⟨arr, T, h1, by omega, h3, fun i hi => by have := h4 i (by omega); rw [h i hi] at this; exact this⟩
end Dv
namespace Dv
open Go
/-- One row ahead of rows. -/
theorem app_pre {α : Type} (e : α → List AV) (d : α) (sz : Nat) {l : List α} {v : α} {c : List AV} {x : Nat} (he : (e v).length = sz) (hc : c = e v) (hx : x < 1 + l.length) :
    appR 1 (rowOf sz c) (fun i => e (l.getD (0 + i) d)) x = e ((v :: l).getD x d) := by
  subst hc
  refine app_rows e d [v] l rfl (fun i hi => ?_) (fun i _ => by rw [Nat.zero_add]) (by simpa [Nat.add_comm] using hx)
  match i, hi with
  | 0, _ => subst he; exact rowOf_one _
end Dv
namespace Dv
open Go
theorem app_snoc {α : Type} (e : α → List AV) (d : α) (sz : Nat) {l : List α} {v : α} {c : List AV} {n x : Nat} {f : Nat → List AV} (hn : n = l.length) (hf : ∀ i, i < l.length → f i = e (l.getD i d)) (he : (e v).length = sz) (hc : c = e v) (hx : x < n + 1) :
    appR n f (fun i => rowOf sz c (0 + i)) x = e ((l ++ [v]).getD x d) :=
  app_row1 e d l hn hf (by subst hc; subst he; exact rowOf_one _) (by omega)
end Dv
namespace Dv
theorem drop_getD {α : Type} {l : List α} {k : Nat} (d : α) (h : k < l.length) : l.drop k = l.getD k d :: l.drop (k + 1) := by
  rw [List.drop_eq_getElem_cons h, getD_lt d h]
end Dv
namespace Dv
open Go
section
variable {H : Type} {enc : TypeId × Value → H} {P : Program} {w : World} {Small : DataW H → Prop}
/-- Pieces of a struct, one behind the other. -/
def Rds (enc : TypeId × Value → H) (P : Program) (w : World) (Small : DataW H → Prop) (fl : List (TypeId × Nat)) (α : Type) (e : α → List AV) : Prop :=
  ∀ (n o : Nat) (cs : List Value), (∀ (j : Nat) (p : TypeId × Nat), fl[j]? = some p → ∃ d ps, DataW.trod enc P w 0 (fun _ => true) true n p.1 ((cs.drop (o + ((fl.take j).map (·.2)).sum)).take p.2) = some (d, ps) ∧ Small d) →
    cs.length = o + (fl.map (·.2)).sum → ∃ x : α, Vs w (fun _ => False) (e x) ι0 (cs.drop o)
theorem Rds.nil : Rds enc P w Small [] Unit (fun _ => []) := by
  intro n o cs _ hl
  exact ⟨(), seg_end (by simpa using hl)⟩
theorem Rds.cons {t : TypeId} {s : Nat} {fl : List (TypeId × Nat)} {α β : Type} {e : α → List AV} {f : β → List AV} (h : Rd enc P w Small t α e) (hr : Rds enc P w Small fl β f) :
    Rds enc P w Small ((t, s) :: fl) (α × β) (fun x => e x.1 ++ f x.2) := by
  intro n o cs hj hl
  obtain ⟨d, ps, h1, h2⟩ := hj 0 (t, s) rfl
  obtain ⟨x, hx⟩ := h n _ d ps h1 h2
  obtain ⟨y, hy⟩ := hr n (o + s) cs (fun j p hp => by
    obtain ⟨d, ps, h3, h4⟩ := hj (j + 1) p hp
    refine ⟨d, ps, ?_, h4⟩
    rw [← h3]
    simp [Nat.add_assoc]) (by simp at hl; omega)
  refine ⟨(x, y), seg_step ?_ hy⟩
  simpa using hx
def offs : Nat → List (TypeId × Nat) → List (Nat × TypeId)
  | _, [] => []
  | o, (t, s) :: r => (o, t) :: offs (o + s) r
theorem offs_get : ∀ (fl : List (TypeId × Nat)) (o j : Nat) (p : TypeId × Nat), fl[j]? = some p → (offs o fl)[j]? = some (o + ((fl.take j).map (·.2)).sum, p.1)
  | [], _, _, _, h => by simp at h
  | (t, s) :: r, o, 0, p, h => by simp at h; subst h; simp [offs]
  | (t, s) :: r, o, j + 1, p, h => by
      simp only [offs, List.getElem?_cons_succ] at h ⊢
      rw [offs_get r (o + s) j p h]
      simp [Nat.add_assoc]
theorem Rd.struct {t : TypeId} {fs : Array Field} {fl : List (TypeId × Nat)} {α : Type} {e : α → List AV} (ht : P.underlying t = some (.struct fs)) (hr : Rds enc P w Small fl α e)
    (hf : fs.toList.map (fun f => (f.offset, f.type)) = offs 0 fl) (hz : fl.map (fun p => P.cellsOf p.1) = fl.map (·.2)) (hc : P.cellsOf t = (fl.map (·.2)).sum)
    (hs : ∀ ds, Small (.agg ds) → ∀ d ∈ ds, Small d) : Rd enc P w Small t α e := by
  intro fuel cs d ps h hsm
  obtain ⟨xs, n, _, hx, hl, hlen, hget⟩ := DataW.trod_struct ht h
  simp only [Prod.mk.injEq] at hx
  obtain ⟨rfl, _⟩ := hx
  have hsz : fs.size = fl.length := by
    have := congrArg List.length hf
    have ho : ∀ (fl : List (TypeId × Nat)) o, (offs o fl).length = fl.length := by
      intro fl; induction fl with
      | nil => intro _; rfl
      | cons p r ih => intro o; simp [offs, ih]
    rw [ho] at this; simpa using this
  obtain ⟨x, hx⟩ := hr n 0 cs (fun j p hp => by
    have h1 := offs_get fl 0 j p hp
    rw [← hf, List.getElem?_map] at h1
    have hj : j < fl.length := (List.getElem?_eq_some_iff.1 hp).1
    have hjs : j < fs.size := by omega
    have hfj : fs[j]? = some fs[j] := by simp [hjs]
    have h2 := hget j _ hfj
    have hxj : xs[j]? = some (xs[j]'(by omega)) := by simp [show j < xs.length by omega]
    have he : fs[j].offset = 0 + ((fl.take j).map (·.2)).sum ∧ fs[j].type = p.1 := by
      have e3 : fs.toList[j]? = some fs[j] := by simp [hjs]
      rw [e3] at h1
      simp only [Option.map_some, Option.some.injEq, Prod.mk.injEq] at h1
      exact h1
    have hp2 : P.cellsOf p.1 = p.2 := by
      have h3 := congrArg (fun l => l[j]?) hz
      simp only [List.getElem?_map, hp, Option.map_some, Option.some.injEq] at h3
      exact h3
    refine ⟨(xs[j]'(by omega)).1, (xs[j]'(by omega)).2, ?_, ?_⟩
    · rw [← he.1, ← hp2, ← he.2, h2, hxj]
    · exact hs _ hsm _ (List.mem_map.2 ⟨xs[j]'(by omega), List.getElem_mem _, rfl⟩)) (by rw [hl, hc]; simp)
  exact ⟨x, by simpa using hx⟩
theorem Rd.map {t : TypeId} {α β : Type} {e : α → List AV} {e' : β → List AV} (g : α → β) (h : Rd enc P w Small t α e) (he : ∀ x, e x = e' (g x)) : Rd enc P w Small t β e' := by
  intro fuel cs d ps h1 h2
  obtain ⟨x, hx⟩ := h fuel cs d ps h1 h2
  exact ⟨g x, by rw [← he]; exact hx⟩
end
end Dv
namespace Dv
open Go
/-! ### Rows that are given away: they stay as they are from then on -/
theorem places_mine {R : Rows} {ι : Places} {b : Nat} (h : Mine (R.places ι) b) : Mine ι b := by
  obtain ⟨j, c, e⟩ := h
  simp only [Rows.places] at e
  split at e
  · exact ⟨_, c, e⟩
  · cases e
  · cases e
theorem places_keep {R : Rows} {ι : Places} {X : Nat → Prop} {w : World} : Keep w w (Own X ι) (Own X (R.places ι)) :=
  ⟨Nat.le_refl _, fun _ _ _ => rfl, fun _ _ h => h.imp id places_mine⟩
/-- How a value reads behind a change of names, some rows being given away. -/
def FV (R : Rows) (h : AHeap) (x y : AV) : Prop := ∀ (X : Nat → Prop) (ι : Places) (w : World) (v : Value), Sim X h ι w → V w (Own X ι) x ι v → V w (Own X (R.places ι)) y (R.places ι) v
def FVs (R : Rows) (h : AHeap) (xs ys : List AV) : Prop := ∀ (X : Nat → Prop) (ι : Places) (w : World), Sim X h ι w → (∀ vs, Vs w (Own X ι) xs ι vs → Vs w (Own X (R.places ι)) ys (R.places ι) vs) ∧ ∀ b o, Vc w (Own X ι) xs ι b o → Vc w (Own X (R.places ι)) ys (R.places ι) b o ∧ xs.length = ys.length
theorem FV.le {R : Rows} {h : AHeap} {x y : AV} (hn : nodupI R.news = true) (ht : TLe R x y) : FV R h x y := fun _ _ _ _ _ hv => V_keep places_keep _ _ (Sub.refl _) (ht.V hn hv)
theorem FV.wk {R : Rows} {h : AHeap} {x y : AV} (hi : immD x = true) (hw : Wk x y) : FV R h x y := fun _ _ _ _ _ hv => hw.V (immD_V _ _ hi (V_keep places_keep _ _ (Sub.refl _) hv))
theorem FV.imm {R : Rows} {h : AHeap} {x : AV} (hi : immD x = true) : FV R h x x := FV.wk hi .refl
theorem FVs.nil {R : Rows} {h : AHeap} : FVs R h [] [] := fun _ _ _ _ => ⟨fun vs hv => by simp only [Vs] at hv ⊢; exact hv, fun b o hv => by simp only [Vc] at hv ⊢; exact ⟨trivial, trivial⟩⟩
theorem FVs.cons {R : Rows} {h : AHeap} {x y : AV} {xs ys : List AV} (h1 : FV R h x y) (h2 : FVs R h xs ys) : FVs R h (x :: xs) (y :: ys) := by
  intro X ι w s
  refine ⟨fun vs hv => ?_, fun b o hv => ?_⟩
  · simp only [Vs] at hv ⊢
    obtain ⟨v, r, e, hv1, hv2⟩ := hv
    exact ⟨v, r, e, h1 X ι w v s hv1, (h2 X ι w s).1 r hv2⟩
  · simp only [Vc] at hv ⊢
    obtain ⟨⟨v, e, h0, hv1⟩, hv2⟩ := hv
    obtain ⟨h3, h4⟩ := (h2 X ι w s).2 b (o + 1) hv2
    exact ⟨⟨⟨v, e, h0, h1 X ι w v s hv1⟩, h3⟩, by simp [h4]⟩
theorem FV.agg {R : Rows} {h : AHeap} {xs ys : List AV} (hs : FVs R h xs ys) : FV R h (.agg xs) (.agg ys) := by
  intro X ι w v s hv
  simp only [V] at hv ⊢
  obtain ⟨a, e, h1⟩ := hv
  exact ⟨a, e, (hs X ι w s).1 a h1⟩
/-- A row given away. -/
theorem FV.frz {R : Rows} {h : AHeap} {i : Id} {sz st len m k : Nat} {f g : Nat → List AV} (hh : h i = some (.row true sz k f)) (hi : memI i R.olds = false) (hk : st + len ≤ k) (hm : len = m) (hf : ∀ x, x < len → Wks (f (st + x)) (g x)) :
    FV R h (.rs i sz st len) (.sl sz m g) := by
  intro X ι w v s hv
  subst hm
  simp only [V] at hv ⊢
  cases hl : ι i with
  | none => rw [hl] at hv; exact hv.elim
  | some l =>
    have hb := s.rel i _ l hh hl
    rw [hl] at hv
    cases l with
    | ghost => exact hv.elim
    | nil =>
      simp only at hv
      obtain ⟨e, e1, e2⟩ := hv
      subst e1; subst e2
      exact ⟨none, 0, e, Nat.le_refl _, Nat.zero_le _, .inl rfl⟩
    | «at» b c =>
      simp only at hv
      obtain ⟨p, e, h1, h2, h3⟩ := hv
      refine ⟨some p, c - st, e, by omega, h2, ?_⟩
      by_cases h0 : len = 0
      · exact .inl h0
      · right
        obtain ⟨arr, T, e1, h4, h5, h6⟩ := hb
        have hp : p = ⟨b, st * sz, none⟩ := h3.resolve_left (by omega)
        refine ⟨b, st * sz, by rw [hp], s.lt hl, ?_, fun x hx => ?_⟩
        · rintro (hx | ⟨j, d, ej⟩)
          · exact s.apart i b c hl hx
          · simp only [Rows.places] at ej
            split at ej
            · rename_i i' hi'
              have := s.inj i' i b d c ej hl
              subst this
              have := src_olds hi'
              rw [← memI_iff, hi] at this
              cases this
            · cases ej
            · cases ej
        · have := h6 (st + x) (by omega)
          obtain ⟨hlw, hvw⟩ := (hf x hx).Vc this.2
          refine ⟨by rw [← hlw]; exact this.1, ?_⟩
          rw [← Nat.add_mul]
          exact Vc_keep places_keep _ b _ rfl (Sub.refl _) hvw
inductive TSem (R : Rows) (σ : ASt) : List (Nat × AV) → Prop where
  | nil : TSem R σ []
  | cons {t : Nat} {y : AV} {r : List (Nat × AV)} (h : FV R σ.h (σ.tm t) y) (hr : TSem R σ r) : TSem R σ ((t, y) :: r)
theorem tsem_look {R : Rows} {σ : ASt} : ∀ {l : List (Nat × AV)} (t : Nat), TSem R σ l → FV R σ.h (σ.tm t) (lookT l t)
  | [], _, _ => fun _ _ _ _ _ _ => by simp only [lookT, V]
  | (u, y) :: r, t, .cons h hr => by
      simp only [lookT]
      cases e : Nat.beq u t with
      | true => have := Nat.eq_of_beq_eq_true e; subst this; exact h
      | false => exact tsem_look t hr
def BF (R : Rows) (h : AHeap) (b0 b : ABlock) : Prop := ∀ (X : Nat → Prop) (ι : Places) (w : World) (l : Loc), Sim X h ι w → BRel w (Own X ι) ι b0 l → BRel w (Own X (R.places ι)) (R.places ι) b l
theorem BF.le {R : Rows} {h : AHeap} {b0 b : ABlock} (hn : nodupI R.news = true) (hb : BLe (mapB R.ren b0) b) : BF R h b0 b := by
  intro X ι w l s hr
  refine hb _ _ _ _ ?_
  have := BRel_map (ι' := R.places ι) (ρ := R.ren) (fun a b e => by simp only [Rows.places, (ren_spec hn e).1]) b0 l hr
  exact BRel_keep places_keep (Sub.refl _) _ l (fun _ _ _ => rfl) this
/-- A row each of whose cells reads otherwise; it was none that stays as it is. -/
theorem BF.cells {R : Rows} {h : AHeap} {imm : Bool} {sz n n' : Nat} {f g : Nat → List AV} (hn : n' ≤ n) (hf : ∀ i, i < n' → FVs R h (f i) (g i)) : BF R h (.row imm sz n f) (.row false sz n' g) := by
  intro X ι w l s hr
  cases l with
  | ghost => trivial
  | nil => simp only [BRel] at hr ⊢; omega
  | «at» b c =>
    simp only [BRel] at hr ⊢
    obtain ⟨arr, T, h1, h2, h3, h4⟩ := hr
    refine ⟨arr, T, h1, by omega, h3, fun i hi => ?_⟩
    have h5 := h4 i (by omega)
    obtain ⟨h6, h7⟩ := (hf i hi X ι w s).2 b (i * sz) (Vc_weak' imm _ _ _ h5.2)
    exact ⟨by rw [← h7]; exact h5.1, h6⟩
inductive BSem (R : Rows) (σ : ASt) : Rows → Prop where
  | nil : BSem R σ []
  | old {j i : Id} {b0 b : ABlock} {r : Rows} (h : σ.h i = some b0) (hb : BF R σ.h b0 b) (hr : BSem R σ r) : BSem R σ ((j, .old i, b) :: r)
  | new {j : Id} {imm : Bool} {sz : Nat} {g : Nat → List AV} {r : Rows} (hr : BSem R σ r) : BSem R σ ((j, .nil, .row imm sz 0 g) :: r)
theorem bsem_find : ∀ {R S : Rows} {σ : ASt} {j : Id} {blk : ABlock}, BSem R σ S → lookH S.heap j = some blk →
    (∃ i b0, S.src j = some (.old i) ∧ σ.h i = some b0 ∧ BF R σ.h b0 blk) ∨ (S.src j = some .nil ∧ ∃ imm sz g, blk = .row imm sz 0 g)
  | _, _, _, _, _, .nil, h => by simp [Rows.heap, lookH] at h
  | _, _, _, j, _, .old (j := j') (i := i) h hb hr, hh => by
      simp only [Rows.heap, lookH] at hh
      cases e : idEq j' j with
      | true => rw [e] at hh; simp only [cond_true, Option.some.injEq] at hh; subst hh; left; exact ⟨i, _, by simp [Rows.src, e], h, hb⟩
      | false => rw [e] at hh; simp only [cond_false] at hh; simpa [Rows.src, e] using bsem_find hr hh
  | _, _, _, j, _, .new (j := j') hr, hh => by
      simp only [Rows.heap, lookH] at hh
      cases e : idEq j' j with
      | true => rw [e] at hh; simp only [cond_true, Option.some.injEq] at hh; right; exact ⟨by simp [Rows.src, e], _, _, _, hh.symm⟩
      | false => rw [e] at hh; simp only [cond_false] at hh; simpa [Rows.src, e] using bsem_find hr hh
theorem bsem_dom : ∀ {R S : Rows} {σ : ASt} {j i : Id}, BSem R σ S → S.src j = some (.old i) → (σ.h i).isSome = true
  | _, _, _, _, _, .nil, h => by simp [Rows.src] at h
  | _, _, _, j, i, .old (j := j') h hb hr, hs => by
      simp only [Rows.src] at hs
      cases e : idEq j' j with
      | true => rw [e] at hs; simp only [cond_true, Option.some.injEq, From.old.injEq] at hs; subst hs; rw [h]; rfl
      | false => rw [e] at hs; exact bsem_dom hr hs
  | _, _, _, j, i, .new (j := j') hr, hs => by
      simp only [Rows.src] at hs
      cases e : idEq j' j with
      | true => rw [e] at hs; cases hs
      | false => rw [e] at hs; exact bsem_dom hr hs
/-- As Weak.list, rows being given away. -/
theorem Weak.sem {n : Nat} {L : List Id} {σ : ASt} (R : Rows) {tl : List (Nat × AV)} (hR : R.ok = true) (hL : keepL L R = true) (ht : TSem R σ tl) (hb : BSem R σ R) : Weak n L σ (mkS tl R.heap) := by
  simp only [Rows.ok, Bool.and_eq_true] at hR
  obtain ⟨hn, ho⟩ := hR
  intro X ι a w s
  refine ⟨R.places ι, ⟨⟨fun j => ?_, fun j blk l e1 e2 => ?_, fun j j' b c d e1 e2 => ?_, fun j b c e => ?_, s.sim.below⟩, s.defers, s.size, fun t => ?_⟩, ⟨⟨Fr.refl _ _, fun b h => .inl (places_mine h)⟩, fun i hi _ l _ e => by simp only [Rows.places, keepL_spec hL i hi]; exact e⟩⟩
  · show _ = (lookH R.heap j).isSome
    rw [← src_heap]
    simp only [Rows.places]
    cases hs : R.src j with
    | none => rfl
    | some f =>
      cases f with
      | nil => rfl
      | old i => rw [s.sim.dom i]; exact bsem_dom hb hs
  · rcases bsem_find hb e1 with ⟨i, b0, h1, h2, h3⟩ | ⟨h1, imm, sz, g, h2⟩
    · simp only [Rows.places, h1] at e2
      exact h3 X ι w l s.sim (s.sim.rel i b0 l h2 e2)
    · simp only [Rows.places, h1] at e2
      cases e2; subst h2; rfl
  · simp only [Rows.places] at e1 e2
    split at e1
    · rename_i i hi
      split at e2
      · rename_i i' hi'
        have := s.sim.inj i i' b c d e1 e2
        subst this
        exact src_inj ho hi hi'
      · cases e2
      · cases e2
    · cases e1
    · cases e1
  · simp only [Rows.places] at e
    split at e
    · exact s.sim.apart _ b c e
    · cases e
    · cases e
  · exact tsem_look t ht X ι w _ s.sim (s.tm t)
/-- A call that is given rows of one's own for good, and answers in values that stay. -/
theorem QH.give {P : Program} {h : AHeap} {f : FuncId} {args args' : List AV} {r : AV} {rd : List Id} (hf : FC P f args' r) (hs : Ress h rd args args') (hi : immD r = true) : QH P h f args rd (lookH []) r := by
  refine ⟨hf.1, fun X ι w vals s hV => ?_⟩
  let ι' : Places := fun i => bif memI i rd then none else ι i
  have hmine : ∀ b, Mine ι' b → Mine ι b := by
    rintro b ⟨i, c, e⟩
    simp only [ι'] at e
    cases hm : memI i rd with
    | true => rw [hm] at e; cases e
    | false => rw [hm] at e; exact ⟨i, c, e⟩
  have hout : ∀ b, Own X ι' b → Out X ι rd b := by
    rintro b (hx | ⟨i, c, e⟩)
    · exact .inl hx
    · simp only [ι'] at e
      cases hm : memI i rd with
      | true => rw [hm] at e; cases e
      | false => rw [hm] at e; exact .inr ⟨i, c, (fun h => by rw [← memI_iff, hm] at h; cases h), e⟩
  refine (hf.2 (Out X ι rd) w vals (fun b hb => out_lt s hb) (Ress.Vs s hs hV)).mono ?_
  rintro e w' ⟨v, rfl, hfr, hv⟩
  have k : Keep w w' (Own X ι) (Own X ι') := ⟨hfr.size, fun b hb _ => hfr.block b hb (fun h => h), fun b _ h => h.imp id (hmine b)⟩
  have hρ : ∀ i j, killL rd i = some j → ι' j = ι i := fun i j e => by
    obtain ⟨rfl, e2⟩ := killL_some e
    simp only [ι', e2, cond_false]
  refine ⟨v, ι', rfl, ⟨fun i => ?_, fun i blk l e1 e2 => ?_, fun i j b c d e1 e2 => ?_, fun i b c e => ?_, fun b hb => Nat.lt_of_lt_of_le (s.below b hb) hfr.size⟩, fun y u' hy => ?_, ?_, ⟨hfr.weak (fun _ h => h.elim), fun b h => .inl (hmine b h)⟩⟩
  · simp only [ι', bigH, lookH]
    cases hm : memI i rd with
    | true => rfl
    | false => simp only [cond_false, s.dom i]; cases h i <;> rfl
  · simp only [bigH, lookH] at e1
    simp only [ι'] at e2
    cases hm : memI i rd with
    | true => rw [hm] at e2; cases e2
    | false =>
      rw [hm] at e1 e2
      simp only [cond_false] at e1 e2
      cases hh : h i with
      | none => rw [hh] at e1; cases e1
      | some b0 =>
        rw [hh] at e1
        simp only [Option.map_some, Option.some.injEq] at e1
        subst e1
        rw [mapKB_eq]
        have hr := s.rel i b0 l hh e2
        have := BRel_map (ι' := ι') (ρ := killL rd) hρ b0 l hr
        refine BRel_keep k (Sub.refl _) _ l (fun b c hl => ?_) this
        subst hl
        exact hfr.block b (s.lt e2) (fun h => h)
  · simp only [ι'] at e1 e2
    cases hm : memI i rd with
    | true => rw [hm] at e1; cases e1
    | false =>
      cases hm2 : memI j rd with
      | true => rw [hm2] at e2; cases e2
      | false => rw [hm] at e1; rw [hm2] at e2; exact s.inj i j b c d e1 e2
  · simp only [ι'] at e
    cases hm : memI i rd with
    | true => rw [hm] at e; cases e
    | false => rw [hm] at e; exact s.apart i b c e
  · rw [mapK_eq]
    exact V_keep k _ _ (Sub.refl _) (V_map hρ y u' hy)
  · exact immD_V _ _ hi (V_keep ⟨Nat.le_refl _, fun _ _ _ => rfl, fun b _ h => hout b h⟩ _ _ (Sub.refl _) hv)
end Dv
namespace Dv
open Go Go.MapKept
/-! ### Operations that are taken by hand; a map gone through -/
section
variable {P : Program} {T : Types} {n : Nat} {L : List Id} {X : Nat → Prop} {all : List Oper}
theorem FPre_sound (hT : TOk P T) (hr : RegOk n all) (hg : guardsOf all = []) {K : ASt → Prop} {Q : Exit → Act → World → Prop} {rest : List Nat} {ι0 : Places} {w0 : World}
    (hQ : ∀ τ ι' a' w', K τ → St n X τ ι' a' w' → GoesP L X ι0 ι' w0 w' → wpOps P all.toArray Q rest a' w') : ∀ (pre : List Oper) (k : Nat) (σ : ASt) (ι : Places) (a : Act) (w : World), (∀ j, j < pre.length → pre[j]? = all[k + j]?) →
    FOps P T all (guardsOf all) k pre σ.tm σ.h K → StG all.toArray n X σ ι a w → GoesP L X ι0 ι w0 w → wpOps P all.toArray Q (List.range' k pre.length ++ rest) a w
  | [], k, σ, ι, a, w, _, h, s, hgo => by
      simp only [List.length_nil, List.range'_zero, List.nil_append]
      obtain ⟨τ, h1, h2⟩ := FOps_end s rfl h
      exact hQ _ ι a w h1 h2 hgo
  | o :: r, k, σ, ι, a, w, hrest, h, s, hgo => by
      have ho : all[k]? = some o := by have := hrest 0 (by simp); simpa using this.symm
      simp only [List.length_cons, List.range'_succ, List.cons_append]
      rw [wpOps_cons]
      have hrest' : ∀ j, j < r.length → r[j]? = all[k + 1 + j]? := fun j hj => by
        have := hrest (j + 1) (by simpa using hj); simpa [Nat.add_assoc, Nat.add_comm 1 j] using this
      cases hnt : nilTest T σ.tm σ.h o.guard o.op with
      | none =>
        exact next1_sound hT hr s ho (FOps_cons hnt h) (fun τ ι' a' w' hτ hs hg' => FPre_sound hT hr hg hQ r (k + 1) τ ι' a' w' hrest' hτ hs (hgo.trans hg'))
      | some mn =>
        obtain ⟨m, neg⟩ := mn
        refine nextD_sound hT hr s ho hnt (K := fun τ => FOps P T all (guardsOf all) (k + 1) r τ.tm τ.h K) (fun b hb => ?_) (fun τ ι' a' w' hτ hs hg' => FPre_sound hT hr hg hQ r (k + 1) τ ι' a' w' hrest' hτ hs (hgo.trans hg'))
        obtain ⟨d, op, ty, pos, after, g⟩ := o
        simp only [FOps] at h
        simp only at hnt
        rw [hnt] at h
        have h1 := h b hb
        have e2 : ∀ (k' : (Nat → AV) → Prop), fClear (guardsOf all) k σ.tm k' = k' (bif memN (guardsOf all) k then clearG k σ else σ).tm := by
          intro k'; unfold fClear; cases memN (guardsOf all) k <;> rfl
        rw [e2] at h1
        have e3 : ∀ (τ : ASt) (k' : (Nat → AV) → Prop), fPut d g (.bool b) τ.tm k' = k' (τ.put d (gval g (.bool b))).tm := by
          intro τ k'; unfold fPut; cases d with
          | none => rfl
          | some d => simp only [forceAV_eq]; rfl
        rw [e3] at h1
        have e4 : (appS all k ⟨d, op, ty, pos, after, g⟩ (.bool b) .none σ).h = σ.h := app_h
        rw [e4]
        exact h1
/-- What an operation that is taken by hand leaves; then the rest. -/
abbrev Hand (P : Program) (T : Types) (all : List Oper) (j : Nat) (o : Oper) (r : List Oper) (τ : ASt) (Q : ASt → Prop) (e : Eff) : Prop :=
  upOk all τ o e.up = true ∧ FOps P T all (guardsOf all) (j + 1) r (appS all j o e.val e.up τ).tm (appS all j o e.val e.up τ).h Q
/-- A region, one operation of which is taken by hand. -/
theorem AWp_hand (hT : TOk P T) {id : Nat} {ops : Array Oper} {Q : Exit → ASt → Prop} {σ : ASt} (pre : List Oper) (o : Oper) (r : List Oper) (e : ops.toList = pre ++ o :: r) (hr : regOk n ops.toList = true) (hg : guardsOf ops.toList = []) (hog : o.guard = none)
    (h : FOps P T ops.toList (guardsOf ops.toList) 0 pre σ.tm σ.h fun τ => ∀ (X : Nat → Prop) ι a w, St n X τ ι a w → ∃ e : Eff, OpOk P n X τ ι a w o (freshOf o) e.up e.val ∧ Hand P T ops.toList pre.length o r τ (Q .normal) e) : AWp P n L (.region id ops false) Q σ := by
  refine AWp.region hr (fun X ι a w s => ?_)
  have hR := regOk_spec hr
  have hlen : ops.size = pre.length + (1 + r.length) := by
    have := congrArg List.length e; simp at this; omega
  have hrange : List.range ops.size = List.range' 0 pre.length ++ (pre.length :: List.range' (pre.length + 1) r.length) := by
    rw [List.range_eq_range', hlen, ← List.range'_append (s := 0) (m := pre.length) (n := 1 + r.length) (step := 1), Nat.add_comm 1 r.length, List.range'_succ]
    simp
  rw [hrange]
  have key := FPre_sound (L := L) (all := ops.toList) (Q := fun e a' w' => e = .normal ∧ ∃ τ ι', Q .normal τ ∧ St n X τ ι' a' w' ∧ GoesP L X ι ι' w w') (rest := pre.length :: List.range' (pre.length + 1) r.length) (ι0 := ι) (w0 := w) hT hR hg ?_ pre 0 σ ι a w
    (fun j hj => by rw [e, Nat.zero_add, List.getElem?_append_left hj]) h (by simpa using StG.of_St (ops := ops) s) (GoesP.refl L X ι w)
  · simpa using key
  intro τ ι' a' w' hK hs hgo
  rw [wpOps_cons]
  have ho : ops.toList[pre.length]? = some o := by rw [e]; simp
  have ho' : ops.toList.toArray[pre.length]? = some o := by simpa using ho
  obtain ⟨ef, ⟨rr, v, w1, ι1, h1, h2, h3, h4, h5, h6⟩, hu, hK'⟩ := hK X ι' a' w' hs
  have hw : Region.wanted o (yielded ops.toList.toArray a'.tmps) = true := by simp [Region.wanted, hog]
  unfold wpOp
  rw [ho']
  simp only [hw, if_true]
  left
  have hS := StG.of_St (ops := ops.toList.toArray) hs
  have go : ∀ val, V w1 (Own X ι1) ef.val ι1 val → wpOps P ops.toList.toArray (fun e a' w' => e = .normal ∧ ∃ τ ι', Q .normal τ ∧ St n X τ ι' a' w' ∧ GoesP L X ι ι' w w') (List.range' (pre.length + 1) r.length) (a'.put o.dst val) w1 := by
    intro val hv
    have hh : Sim X (upS (freshOf o) ef.up τ).h ι1 w1 := h3
    refine FOps_sound (L := L) (K := Q .normal) (Q := fun e a' w' => e = .normal ∧ ∃ τ ι', Q .normal τ ∧ St n X τ ι' a' w' ∧ GoesP L X ι ι' w w') (ι0 := ι) (w0 := w) hT hR (fun τ ι' a' w' h1 h2 h3 => ⟨rfl, τ, ι', h1, h2, h3⟩) r (pre.length + 1) _ ι1 _ w1 (fun j => ?_) hK'
      (app_StG hR hS ho hu hh h4 (.inl ⟨hw, hv⟩)) (hgo.trans ⟨h6, pin_of hu h4⟩)
    rw [e, List.getElem?_append_right (by omega)]
    rw [show pre.length + 1 + j - pre.length = j + 1 by omega, List.getElem?_cons_succ]
  unfold Oper.wp
  rw [h1]
  rcases h2 with h2 | ⟨h2, h2'⟩
  · subst h2; exact go v h5
  · subst h2; subst h2'; exact go undef h5
theorem AWp_hand0 (hT : TOk P T) {id : Nat} {ops : Array Oper} {Q : Exit → ASt → Prop} {σ : ASt} {o : Oper} {r : List Oper} (e : ops.toList = o :: r) (hr : regOk n ops.toList = true) (hg : guardsOf ops.toList = []) (hog : o.guard = none)
    (h : ∀ (X : Nat → Prop) ι a w, St n X σ ι a w → ∃ e : Eff, OpOk P n X σ ι a w o (freshOf o) e.up e.val ∧ Hand P T ops.toList 0 o r σ (Q .normal) e) : AWp P n L (.region id ops false) Q σ := by
  refine AWp_hand hT [] o r e hr hg hog ?_
  rw [hg]; exact h
theorem AWp_hand1 (hT : TOk P T) {id : Nat} {ops : Array Oper} {Q : Exit → ASt → Prop} {σ : ASt} {o1 o : Oper} {r : List Oper} (e : ops.toList = o1 :: o :: r) (hr : regOk n ops.toList = true) (hg : guardsOf ops.toList = []) (hog : o.guard = none)
    (h : FOps P T ops.toList (guardsOf ops.toList) 0 [o1] σ.tm σ.h fun τ => ∀ (X : Nat → Prop) ι a w, St n X τ ι a w → ∃ e : Eff, OpOk P n X τ ι a w o (freshOf o) e.up e.val ∧ Hand P T ops.toList 1 o r τ (Q .normal) e) : AWp P n L (.region id ops false) Q σ :=
  AWp_hand hT [o1] o r e hr hg hog h
theorem AWp_hand2 (hT : TOk P T) {id : Nat} {ops : Array Oper} {Q : Exit → ASt → Prop} {σ : ASt} {o1 o2 o : Oper} {r : List Oper} (e : ops.toList = o1 :: o2 :: o :: r) (hr : regOk n ops.toList = true) (hg : guardsOf ops.toList = []) (hog : o.guard = none)
    (h : FOps P T ops.toList (guardsOf ops.toList) 0 [o1, o2] σ.tm σ.h fun τ => ∀ (X : Nat → Prop) ι a w, St n X τ ι a w → ∃ e : Eff, OpOk P n X τ ι a w o (freshOf o) e.up e.val ∧ Hand P T ops.toList 2 o r τ (Q .normal) e) : AWp P n L (.region id ops false) Q σ :=
  AWp_hand hT [o1, o2] o r e hr hg hog h
/-! #### A map opened and shut -/
theorem AWp_open {c : Code} {Q : Exit → ASt → Prop} {tm : Nat → AV} {h : AHeap} (t : Nat) (i : Id) {κ : MK} {m : List (List Int × Int)} (ht : tm t = .mp i) (hh : h i = some (.map (.assoc κ m)))
    (k : ∀ es clock, MOk κ m es clock → AWp P n L c Q ⟨tm, updH h i (some (.map (.exact es clock)))⟩) : AWp P n L c Q ⟨tm, h⟩ := by
  refine ⟨fun r N ds X ι a w hds s => ?_⟩
  have hv := s.tm t
  simp only [ht, V] at hv
  cases hl : ι i with
  | none => rw [hl] at hv; exact hv.elim
  | some l =>
    have hr := s.sim.rel i _ l hh hl
    rw [hl] at hv
    cases l with
    | nil => exact hv.elim
    | ghost => exact hv.elim
    | «at» b cc =>
      obtain ⟨es, clock, hb, hM⟩ := hr
      refine (k es clock hM).1 r N ds X ι a w hds ⟨⟨fun j => ?_, fun j blk l e1 e2 => ?_, s.sim.inj, s.sim.apart, s.sim.below⟩, s.defers, s.size, s.tm⟩
      · show _ = (updH h i (some (.map (.exact es clock))) j).isSome
        by_cases hj : j = i
        · subst hj; rw [hl, updH_same]; rfl
        · rw [updH_ne hj]; exact s.sim.dom j
      · replace e1 : updH h i (some (.map (.exact es clock))) j = some blk := e1
        by_cases hj : j = i
        · subst hj
          rw [updH_same] at e1; cases e1
          rw [hl] at e2; cases e2
          exact hb
        · rw [updH_ne hj] at e1; exact s.sim.rel j blk l e1 e2
theorem BLe.shut {κ : MK} {m : List (List Int × Int)} {es : Array MapEntry} {clock : Nat} (h : MOk κ m es clock) : BLe (.map (.exact es clock)) (.map (.assoc κ m)) := by
  intro w own ι l hr
  cases l with
  | nil => exact hr.elim
  | ghost => trivial
  | «at» b c => exact ⟨es, clock, hr, h⟩
/-! #### Going through -/
theorem New.iter (w : World) (m : Option Nat) (s : Nat) (seen : Array Nat) (c : Nat) : New w (w.alloc (.mapIter m s seen c)) :=
  ⟨rfl, rfl, rfl, by simp, fun k hk => Go.RowKit.Below.heap_alloc w _ k hk, fun b => by
    simp only [World.frozen?]
    rcases Nat.lt_trichotomy b.block w.heap.size with h | h | h
    · rw [Go.RowKit.Below.heap_alloc w _ _ h]
    · rw [h, heap_alloc_new, Array.getElem?_eq_none (Nat.le_refl _)]
    · rw [Array.getElem?_eq_none (by omega : w.heap.size ≤ b.block), Array.getElem?_eq_none (by simp; omega)]⟩
variable {σ : ASt} {ι : Places} {a : Act} {w : World}
theorem range_ok (hT : TOk P T) (s : St n X σ ι a w) {o : Oper} {t : Nat} {x : Operand} {sz b : Nat} {κ : MK} {kt et : Nat} {z : List AV} {id : Id} {es : Array MapEntry} {clock : Nat}
    (ho : o.op = .range t x) (hTt : T t = some ⟨sz, b, .map κ kt et, z⟩) (hx : σ.opv x = .mp id) (hh : σ.h id = some (.map (.exact es clock))) (hf : σ.h (freshOf o) = none) :
    OpOk P n X σ ι a w o (freshOf o) (.alloc (.map (.itr id clock #[] clock))) (.bp (freshOf o) 0) := by
  obtain ⟨ti, d, zv, hok⟩ := hT t _ hTt
  have hk := hok.kind
  cases d <;> simp only [TK.rel] at hk
  obtain ⟨rfl, rfl⟩ := hk
  obtain ⟨r, c, hl, hax, hm⟩ := mp_at s hx hh
  refine OpOk.alloc s hf 0 _ _ (.pointer (some ⟨w.heap.size, 0, none⟩)) (w.alloc (.mapIter (some r) clock #[] clock)) (New.iter w _ _ _ _) ?_ ?_ ?_
  · simp only [execOp, ho, hax]
    rw [Sem.run_bind, run_range_map w t _ _ r es clock hok.und hm]
    rfl
  · rintro ι' rfl _ hs
    exact ⟨r, c, hs _ _ hl, heap_alloc_new _ _⟩
  · rintro ι' rfl
    simp only [V, updP_same]
/-- A key, and its entry, as they read. -/
def keyAV (κ : MK) (k : List Int) : AV := match κ.agg with
  | true => .agg (k.map (AV.int κ.kk))
  | false => .int κ.kk (k.headD 0)
theorem Vs_ints {own : Nat → Prop} {k : IntKind} : ∀ {xs : List Int}, (∀ x ∈ xs, k.min ≤ x ∧ x ≤ k.max) → Vs w own (xs.map (AV.int k)) ι (xs.map (Value.int k))
  | [], _ => by simp only [List.map_nil, Vs]
  | x :: r, h => by
      simp only [List.map_cons, Vs, V]
      exact ⟨_, _, rfl, ⟨rfl, h x (by simp)⟩, Vs_ints (fun y hy => h y (by simp [hy]))⟩
theorem keyAV_V {own : Nat → Prop} {κ : MK} {k : List Int} (h1 : κ.agg = false → κ.n = 1) (h : KeyOk κ k) : V w own (keyAV κ k) ι (keyV κ k) := by
  unfold keyAV keyV
  cases ha : κ.agg with
  | true => simp only [V]; exact ⟨_, rfl, Vs_ints h.2⟩
  | false =>
    have hl := h.1
    rw [h1 ha] at hl
    match k, hl with
    | [x], _ => simp only [V, List.headD_cons]; exact ⟨trivial, h.2 x (by simp)⟩
theorem MOk.entry {κ : MK} {m : List (List Int × Int)} {es : Array MapEntry} {clock : Nat} (h : MOk κ m es clock) {e : MapEntry} (he : e ∈ es.toList) : ∃ k v, (k, v) ∈ m ∧ e.key = keyV κ k ∧ e.val = .int κ.vk v := by
  have : (e.key, e.val) ∈ es.toList.map (fun e => (e.key, e.val)) := List.mem_map.2 ⟨e, he, rfl⟩
  rw [h.kv] at this
  obtain ⟨⟨k, v⟩, h1, h2⟩ := List.mem_map.1 this
  have h3 := Prod.mk.inj h2
  exact ⟨k, v, h1, h3.1.symm, h3.2.symm⟩
theorem bp_at (s : St n X σ ι a w) {x : Operand} {id : Id} {b : MB} (hx : σ.opv x = .bp id 0) (hh : σ.h id = some (.map b)) : ∃ r c, ι id = some (.at r c) ∧ a.eval x = .pointer (some ⟨r, 0, none⟩) ∧ MBRel w ι r b := by
  have hv := s.opv x
  rw [hx] at hv
  simp only [V] at hv
  cases hl : ι id with
  | none => rw [hl] at hv; exact hv.elim
  | some l =>
    have hr := s.sim.rel id _ l hh hl
    rw [hl] at hv
    cases l with
    | nil => exact hv.elim
    | ghost => exact hv.elim
    | «at» r c => exact ⟨r, c, rfl, hv, hr⟩
theorem next_ok (hT : TOk P T) (s : St n X σ ι a w) {o : Oper} {x : Operand} {κ : MK} {t sz b kt et : Nat} {z : List AV} {id mid : Id} {m : List (List Int × Int)} {es : Array MapEntry} {clock : Nat} {seen : Array Nat}
    (ho : o.op = .next x false) (hTt : T t = some ⟨sz, b, .map κ kt et, z⟩) (hx : σ.opv x = .bp id 0) (hh : σ.h id = some (.map (.itr mid clock seen clock))) (hm : σ.h mid = some (.map (.exact es clock))) (hM : MOk κ m es clock) :
    ((leftOf es seen).size = 0 ∧ OpOk P n X σ ι a w o (freshOf o) .none (.tup [.bool false])) ∨
    ∃ e ∈ (leftOf es seen).toList, ∃ k v, (k, v) ∈ m ∧ e.key = keyV κ k ∧ e.val = .int κ.vk v ∧ OpOk P n X σ ι a w o (freshOf o) (.write id (.map (.itr mid clock (seen.push e.born) clock))) (.tup [.bool true, keyAV κ k, .int κ.vk v]) := by
  obtain ⟨ti, d, zv, hok⟩ := hT t _ hTt
  have hk := hok.kind
  cases d <;> simp only [TK.rel] at hk
  obtain ⟨rfl, rfl⟩ := hk
  have K := hok.keyed κ _ _ rfl
  obtain ⟨r, c, hl, hax, bm, c2, hml, hr⟩ := bp_at s hx hh
  have hb : w.heap[bm]? = some (.map es clock) := s.sim.rel mid _ _ hm hml
  rcases run_next_at (P := P) w o.type r bm clock clock seen es clock hr hb hM.clock (Nat.le_refl _) with ⟨h0, hrun⟩ | ⟨e, he, w1, hal, hrun⟩
  · refine .inl ⟨h0, OpOk.pure s (.tuple #[.bool false]) ?_ ?_⟩
    · simp only [execOp, ho, hax]
      rw [Sem.run_bind, hrun]; rfl
    · simp only [V, Vs]
      exact ⟨[.bool false], rfl, _, _, rfl, rfl, rfl⟩
  · have hem : e ∈ es.toList := by
      have := he; unfold leftOf at this; simp at this ⊢; exact this.1
    obtain ⟨k, v, h1, h2, h3⟩ := hM.entry hem
    refine .inr ⟨e, he, k, v, h1, h2, h3, ?_⟩
    have hr1 : w1.heap[r]? = some (.mapIter (some bm) clock seen clock) := by rcases hal with rfl | rfl <;> exact hr
    have hs := heap_set (o' := .mapIter (some bm) clock (seen.push e.born) clock) hr1
    have hw1 : w1.heap = w.heap ∧ w1.os = w.os ∧ w1.tape = w.tape ∧ w1.output = w.output := by rcases hal with rfl | rfl <;> exact ⟨rfl, rfl, rfl, rfl⟩
    have hset : (Go.ChangeMaps.setBlock w1 r (.mapIter (some bm) clock (seen.push e.born) clock)).heap = w1.heap.setIfInBounds r (.mapIter (some bm) clock (seen.push e.born) clock) := rfl
    have hfz : ∀ b, (Go.ChangeMaps.setBlock w1 r (.mapIter (some bm) clock (seen.push e.born) clock)).frozen? b = w.frozen? b := by
      intro b
      simp only [World.frozen?, hset]
      by_cases e' : b.block = r
      · rw [e', hs.1, hr]
      · rw [hs.2 _ e', hw1.1]
    obtain ⟨s', k'⟩ := s.sim.write (w' := Go.ChangeMaps.setBlock w1 r (.mapIter (some bm) clock (seen.push e.born) clock)) hl (.map (.itr mid clock (seen.push e.born) clock)) (by rw [hset]; simp [hw1.1]) (fun k hk => by rw [hset, hs.2 k hk, hw1.1])
      (fun _ => ⟨bm, c2, hml, by rw [hset]; exact hs.1⟩)
    refine ⟨.value (.tuple #[.bool true, e.key, e.val]), _, _, ι, ?_, .inl rfl, s', fun y u' hy => V_keep k' y u' (Sub.refl _) hy, ?_, ⟨⟨hw1.2.1, hw1.2.2.1, hw1.2.2.2, by rw [hset]; simp [hw1.1], fun b' _ hno => by rw [hset, hs.2 b' (fun e' => hno (e' ▸ ⟨id, c, hl⟩)), hw1.1], fun a _ => hfz a⟩, fun _ h => .inl h⟩⟩
    · simp only [execOp, ho, hax]
      rw [Sem.run_bind, hrun]; rfl
    · simp only [V, Vs]
      have hok2 := hM.ok _ h1
      exact ⟨[.bool true, e.key, e.val], rfl, _, _, rfl, rfl, _, _, rfl, h2 ▸ keyAV_V K.one hok2.1, _, _, rfl, ⟨h3, hok2.2⟩, rfl⟩
theorem entry_ok (hT : TOk P T) (s : St n X σ ι a w) {o : Oper} {x : Operand} {κ : MK} {t sz b kt et : Nat} {z : List AV} {id mid : Id} {m : List (List Int × Int)} {es : Array MapEntry} {clock : Nat} {seen : Array Nat} {e : MapEntry} {k : List Int} {v : Int}
    (ho : o.op = .entry x) (hTt : T t = some ⟨sz, b, .map κ kt et, z⟩) (hx : σ.opv x = .bp id 0) (hh : σ.h id = some (.map (.itr mid clock (seen.push e.born) clock))) (hm : σ.h mid = some (.map (.exact es clock))) (hM : MOk κ m es clock)
    (he : e ∈ es.toList) (hp : (k, v) ∈ m) (hk : e.key = keyV κ k) (hv : e.val = .int κ.vk v) : OpOk P n X σ ι a w o (freshOf o) .none (.tup [keyAV κ k, .int κ.vk v]) := by
  obtain ⟨ti, d, zv, hok⟩ := hT t _ hTt
  have hk' := hok.kind
  cases d <;> simp only [TK.rel] at hk'
  obtain ⟨rfl, rfl⟩ := hk'
  have K := hok.keyed κ _ _ rfl
  obtain ⟨r, c, hl, hax, bm, c2, hml, hr⟩ := bp_at s hx hh
  have hb : w.heap[bm]? = some (.map es clock) := s.sim.rel mid _ _ hm hml
  have hrun := run_entry_at (P := P) w r bm clock seen es clock e hr hb he hM.born
  refine OpOk.pure s (.tuple #[e.key, e.val]) ?_ ?_
  · simp only [execOp, ho, hax]
    rw [Sem.run_bind, hrun]; rfl
  · simp only [V, Vs]
    have hok2 := hM.ok _ hp
    exact ⟨[e.key, e.val], rfl, _, _, rfl, hk ▸ keyAV_V K.one hok2.1, _, _, rfl, ⟨hv, hok2.2⟩, rfl⟩
theorem delx_ok (hT : TOk P T) (s : St n X σ ι a w) {o : Oper} {c_1 : Call} {t : Nat} {x ix : Operand} {κ : MK} {sz b kt et : Nat} {z : List AV} {id : Id} {m : List (List Int × Int)} {es : Array MapEntry} {clock : Nat} {key : List Int}
    (ho : o.op = .call c_1) (hc : c_1.callee = .builtin .delete) (ha : c_1.args = #[x, ix]) (ht : c_1.argTypes[0]? = some t) (hTt : T t = some ⟨sz, b, .map κ kt et, z⟩) (hx : σ.opv x = .mp id) (hh : σ.h id = some (.map (.exact es clock)))
    (hkey : keyOfAV κ (σ.opv ix) = some key) (hM : MOk κ m es clock) :
    ∃ es', MOk κ (mdel m key) es' clock ∧ es'.toList.Sublist es.toList ∧ OpOk P n X σ ι a w o (freshOf o) (.write id (.map (.exact es' clock))) .any := by
  obtain ⟨ti, d, zv, hok⟩ := hT t _ hTt
  have hk := hok.kind
  cases d <;> simp only [TK.rel] at hk
  obtain ⟨rfl, rfl⟩ := hk
  have K := hok.keyed κ _ _ rfl
  have run : ∀ v w', (Builtin.delete_ c_1.argTypes o.type #[a.eval x, a.eval ix]).run P w = .ok v w' → (execOp a.eval o).run P w = .ok (.value v) w' := by
    intro v w' h
    simp only [execOp, ho, resolve, hc, ha, Sem.run_bind, Sem.run_pure, Result.andThen_ok, invoke]
    simp [builtin, h]
  obtain ⟨r, c, hl, hax, hb⟩ := mp_at s hx hh
  obtain ⟨hai, hko⟩ := keyOfAV_ok hkey (s.opv ix)
  obtain ⟨l, hl2⟩ := K.reads key hko
  have hchk := K.keyed.check w es.isEmpty hl2
  have done : ∀ es' : Array MapEntry, (Builtin.delete_ c_1.argTypes o.type #[a.eval x, a.eval ix]).run P w = .ok (.tuple #[]) { w with heap := w.heap.setIfInBounds r (.map es' clock) } → OpOk P n X σ ι a w o (freshOf o) (.write id (.map (.exact es' clock))) .any := by
    intro es' hrun
    have hs := heap_set (o' := .map es' clock) hb
    have hfz : ∀ b, World.frozen? { w with heap := w.heap.setIfInBounds r (.map es' clock) } b = w.frozen? b := by
      intro b
      simp only [World.frozen?]
      by_cases e : b.block = r
      · rw [e, hs.1, hb]
      · rw [hs.2 _ e]
    obtain ⟨s', k⟩ := s.sim.write (w' := { w with heap := w.heap.setIfInBounds r (.map es' clock) }) hl (.map (.exact es' clock)) (by simp) (fun k hk => hs.2 k hk) (fun _ => hs.1)
    exact ⟨_, _, _, ι, run _ _ hrun, .inl rfl, s', fun y u' hy => V_keep k y u' (Sub.refl _) hy, by simp only [V], ⟨⟨rfl, rfl, rfl, by simp, fun b' _ hno => hs.2 b' (fun e' => hno (e' ▸ ⟨id, c, hl⟩)), fun a _ => hfz a⟩, fun _ h => .inl h⟩⟩
  rcases K.keyed.find w hl2 es.toList (hM.keys K) with ⟨h1, h2⟩ | ⟨j, e0, h1, h2, h3⟩
  · refine ⟨es, by rw [mdel_none (hM.none h2)]; exact hM, List.Sublist.refl _, done es ?_⟩
    simp [Builtin.delete_, ht, hax, hai, run_underlying hok.und, run_getObj_map hb, hchk, h1, run_setObj_map _ hb, Result.andThen]
  · obtain ⟨y0, h4, h5⟩ := hM.at K.one hko h2 h3
    refine ⟨es.eraseIdxIfInBounds j, by rw [mdel_at hM.nodup h4]; exact hM.erase j, ?_, done _ ?_⟩
    · unfold Array.eraseIdxIfInBounds
      split
      · simp only [Array.toList_eraseIdx]; exact List.eraseIdx_sublist _ _
      · exact List.Sublist.refl _
    · simp [Builtin.delete_, ht, hax, hai, run_underlying hok.und, run_getObj_map hb, hchk, h1, run_setObj_map _ hb, Result.andThen]
theorem AWp_next (hT : TOk P T) (t : Nat) (id mid : Id) (es : Array MapEntry) (clock : Nat) (seen : Array Nat) (m : List (List Int × Int)) (κ : MK) {rid : Nat} {ops : Array Oper} {Q : Exit → ASt → Prop} {o : Oper} {r : List Oper} {x : Operand} {sz b kt et : Nat} {z : List AV}
    (e : ops.toList = o :: r) (hr : regOk n ops.toList = true) (hg : guardsOf ops.toList = []) (hog : o.guard = none) (ho : o.op = .next x false) (hTt : T t = some ⟨sz, b, .map κ kt et, z⟩) (hx : σ.opv x = .bp id 0) (hh : σ.h id = some (.map (.itr mid clock seen clock))) (hm : σ.h mid = some (.map (.exact es clock))) (hM : MOk κ m es clock)
    (h0 : (leftOf es seen).size = 0 → Hand P T ops.toList 0 o r σ (Q .normal) ⟨.tup [.bool false], .none, []⟩)
    (h1 : ∀ e ∈ (leftOf es seen).toList, e ∈ es.toList → ∀ k v, (k, v) ∈ m → e.key = keyV κ k → e.val = .int κ.vk v → Hand P T ops.toList 0 o r σ (Q .normal) ⟨.tup [.bool true, keyAV κ k, .int κ.vk v], .write id (.map (.itr mid clock (seen.push e.born) clock)), []⟩) :
    AWp P n L (.region rid ops false) Q σ := by
  refine AWp_hand0 hT e hr hg hog (fun X ι a w s => ?_)
  rcases next_ok hT s ho hTt hx hh hm hM with ⟨h2, hop⟩ | ⟨e, he, k, v, h2, h3, h4, hop⟩
  · exact ⟨_, hop, h0 h2⟩
  · exact ⟨_, hop, h1 e he (mem_left he).1 k v h2 h3 h4⟩
theorem AWp_entry (hT : TOk P T) (t : Nat) (id mid : Id) (es : Array MapEntry) (clock : Nat) (seen : Array Nat) (m : List (List Int × Int)) (κ : MK) {rid : Nat} {ops : Array Oper} {Q : Exit → ASt → Prop} {o : Oper} {r : List Oper} {x : Operand} {sz b kt et : Nat} {z : List AV} {ent : MapEntry} {k : List Int} {v : Int}
    (e : ops.toList = o :: r) (hr : regOk n ops.toList = true) (hg : guardsOf ops.toList = []) (hog : o.guard = none) (ho : o.op = .entry x) (hTt : T t = some ⟨sz, b, .map κ kt et, z⟩) (hx : σ.opv x = .bp id 0) (hh : σ.h id = some (.map (.itr mid clock (seen.push ent.born) clock))) (hm : σ.h mid = some (.map (.exact es clock))) (hM : MOk κ m es clock)
    (he : ent ∈ es.toList) (hp : (k, v) ∈ m) (hk : ent.key = keyV κ k) (hv : ent.val = .int κ.vk v)
    (h : Hand P T ops.toList 0 o r σ (Q .normal) ⟨.tup [keyAV κ k, .int κ.vk v], .none, []⟩) :
    AWp P n L (.region rid ops false) Q σ :=
  AWp_hand0 hT e hr hg hog (fun X ι a w s => ⟨_, entry_ok hT s ho hTt hx hh hm hM he hp hk hv, h⟩)
theorem del_ex (hT : TOk P T) (s : St n X σ ι a w) (t : Nat) (id : Id) (es : Array MapEntry) (clock : Nat) (m : List (List Int × Int)) (κ : MK) (key : List Int) {o : Oper} {c_1 : Call} {x ix : Operand} {sz b kt et : Nat} {z : List AV} {j : Nat} {r : List Oper} {Q : ASt → Prop}
    (ho : o.op = .call c_1) (hc : c_1.callee = .builtin .delete) (ha : c_1.args = #[x, ix]) (ht : c_1.argTypes[0]? = some t) (hTt : T t = some ⟨sz, b, .map κ kt et, z⟩) (hx : σ.opv x = .mp id) (hh : σ.h id = some (.map (.exact es clock)))
    (hkey : keyOfAV κ (σ.opv ix) = some key) (hM : MOk κ m es clock)
    (h : ∀ es' : Array MapEntry, MOk κ (mdel m key) es' clock → es'.toList.Sublist es.toList → Hand P T all j o r σ Q ⟨.any, .write id (.map (.exact es' clock)), []⟩) :
    ∃ e : Eff, OpOk P n X σ ι a w o (freshOf o) e.up e.val ∧ Hand P T all j o r σ Q e := by
  obtain ⟨es', h1, h2, h3⟩ := delx_ok hT s ho hc ha ht hTt hx hh hkey hM
  exact ⟨_, h3, h es' h1 h2⟩
end
end Dv
namespace Dv
open Go
mutual
theorem immD_map (ρ : Id → Option Id) : ∀ (x : AV), immD x = true → mapAV ρ x = x
  | .agg cs, h => by simp only [immD] at h; simp only [mapAV]; rw [immD_maps ρ cs h]
  | .tup cs, h => by simp only [immD] at h; simp only [mapAV]; rw [immD_maps ρ cs h]
  | .fn f cs, h => by simp only [immD] at h; simp only [mapAV]; rw [immD_maps ρ cs h]
  | .ifc t x, h => by simp only [immD] at h; simp only [mapAV]; rw [immD_map ρ x h]
  | .rs _ _ _ _, h => by simp only [immD] at h; cases h
  | .rp _ _ _ _, h => by simp only [immD] at h; cases h
  | .bp _ _, h => by simp only [immD] at h; cases h
  | .mp _, h => by simp only [immD] at h; cases h
  | .guard _ _ _, h => by simp only [immD] at h; cases h
  | .any, _ => rfl
  | .int _ _, _ => rfl
  | .bool _, _ => rfl
  | .str _, _ => rfl
  | .sl _ _ _, _ => rfl
  | .nsl, _ => rfl
  | .ip _, _ => rfl
  | .np, _ => rfl
  | .nif, _ => rfl
  | .nfn, _ => rfl
theorem immD_maps (ρ : Id → Option Id) : ∀ (xs : List AV), immDs xs = true → mapAVs ρ xs = xs
  | [], _ => rfl
  | c :: cs, h => by
      simp only [immDs, Bool.and_eq_true] at h
      simp only [mapAVs]
      rw [immD_map ρ c h.1, immD_maps ρ cs h.2]
end
theorem TLe.fn {R : Rows} {g : FuncId} {cap : List AV} (h : immDs cap = true) : TLe R (.fn g cap) (.fn g cap) := .eq (by simp only [mapAV]; rw [immD_maps _ _ h])
theorem immDs_app : ∀ {xs ys : List AV}, immDs xs = true → immDs ys = true → immDs (xs ++ ys) = true
  | [], _, _, h => h
  | c :: cs, ys, h, h2 => by
      simp only [immDs, Bool.and_eq_true] at h
      simp only [List.cons_append, immDs, Bool.and_eq_true]
      exact ⟨h.1, immDs_app h.2 h2⟩
theorem Ress.imms : ∀ {h : AHeap} {rd : List Id} {xs : List AV}, immDs xs = true → Ress h rd xs xs
  | _, _, [], _ => .nil
  | _, _, c :: cs, hi => by
      simp only [immDs, Bool.and_eq_true] at hi
      exact .cons (.imm hi.1) (Ress.imms hi.2)
end Dv
namespace Dv
open Go
/-! ### A call under a guard that turns one row -/
theorem mapK_nil (x : AV) : mapK [] x = x := rfl
theorem bigH_one (i : Id) (b : ABlock) (h : AHeap) : bigH [] (lookH [(i, b)]) h = updH h i (some b) := by
  funext j
  simp only [bigH, lookH, updH]
  cases e : idEq i j with
  | true => have := idEq_iff.1 e; subst this; simp [idEq_iff.2 rfl]
  | false =>
    have : idEq j i = false := idEq_false.2 (fun e' => by subst e'; rw [idEq_iff.2 rfl] at e; cases e)
    simp only [this, cond_false, memI]
    cases h j <;> rfl
theorem QC.turn {P : Program} {h : AHeap} {f : FuncId} {args : List AV} {fresh i : Id} {rd : List Id} {b : ABlock} {r : AV} (_ : i ∈ rd) (H : ∀ h' : AHeap, (∀ j ∈ rd, h' j = h j) → QH P h' f args [] (lookH [(i, b)]) r) :
    QC P h f args rd fresh (.put i b) r := by
  refine ⟨(H h (fun _ _ => rfl)).1, (fun e => by cases e), fun h' hh _ X ι w vals hs hv => ?_⟩
  refine ((H h' hh).2 X ι w vals hs hv).mono ?_
  rintro e w' ⟨v, ι', rfl, h1, h2, h3, h4⟩
  refine ⟨v, ι', rfl, ?_, fun y u' hy => ?_, h3, h4⟩
  · rw [bigH_one] at h1; exact h1
  · exact h2 y u' hy
end Dv
namespace Dv
open Go
theorem BLe.boxI {ρ : Id → Option Id} {cs : List AV} (hi : immDs cs = true) : BLe (mapB ρ (boxed cs)) (boxed cs) := by
  have : mapB ρ (boxed cs) = boxed cs := by
    unfold boxed mapB
    cases allB isImm cs with
    | true => rfl
    | false => simp only [cond_false]; rw [immD_maps ρ cs hi]
  rw [this]; exact BLe.refl _
/-- One row behind a change of names. -/
theorem BLe.rowO {ρ : Id → Option Id} {sz : Nat} {f : Nat → List AV} {c : List AV} (h : mapAVs ρ (f 0) = c) : BLe (mapB ρ (.row false sz 1 f)) (.row false sz 1 (fun _ => c)) := by
  refine BLe.rowW (Nat.le_refl _) (fun z hz => ?_)
  match z, hz with
  | 0, _ => exact Wks.of h
end Dv
namespace Dv
open Go
/-! ### Heaps told by functions: names changed, rows given away -/
/-- The places of new names. -/
def plc (src : Id → Option Id) (h' : AHeap) (ι : Places) : Places := fun j => match h' j with
  | none => none
  | some _ => match src j with
    | some i => ι i
    | none => some .nil
theorem plc_mine {src : Id → Option Id} {h' : AHeap} {ι : Places} {b : Nat} (h : Mine (plc src h' ι) b) : Mine ι b := by
  obtain ⟨j, c, e⟩ := h
  simp only [plc] at e
  split at e
  · cases e
  · split at e
    · exact ⟨_, c, e⟩
    · cases e
theorem plc_keep {src : Id → Option Id} {h' : AHeap} {ι : Places} {X : Nat → Prop} {w : World} : Keep w w (Own X ι) (Own X (plc src h' ι)) :=
  ⟨Nat.le_refl _, fun _ _ _ => rfl, fun _ _ h => h.imp id plc_mine⟩
/-- How a value reads behind. -/
def GV (src : Id → Option Id) (h h' : AHeap) (x y : AV) : Prop := ∀ (X : Nat → Prop) (ι : Places) (w : World) (v : Value), Sim X h ι w → V w (Own X ι) x ι v → V w (Own X (plc src h' ι)) y (plc src h' ι) v
inductive GVs (src : Id → Option Id) (h h' : AHeap) : List AV → List AV → Prop where
  | nil : GVs src h h' [] []
  | cons {x y : AV} {xs ys : List AV} (h1 : GV src h h' x y) (hr : GVs src h h' xs ys) : GVs src h h' (x :: xs) (y :: ys)
section
variable {src : Id → Option Id} {h h' : AHeap}
theorem GVs.len : ∀ {xs ys : List AV}, GVs src h h' xs ys → xs.length = ys.length
  | _, _, .nil => rfl
  | _, _, .cons _ hr => by simp [hr.len]
theorem GVs.Vs {X : Nat → Prop} {ι : Places} {w : World} (s : Sim X h ι w) : ∀ {xs ys : List AV} {vs : List Value}, GVs src h h' xs ys → Dv.Vs w (Own X ι) xs ι vs → Dv.Vs w (Own X (plc src h' ι)) ys (plc src h' ι) vs
  | _, _, _, .nil, hv => by simp only [Dv.Vs] at hv ⊢; exact hv
  | _, _, _, .cons h1 hr, hv => by
      simp only [Dv.Vs] at hv ⊢
      obtain ⟨v, r, e, hv1, hv2⟩ := hv
      exact ⟨v, r, e, h1 X ι w v s hv1, hr.Vs s hv2⟩
theorem GVs.Vc {X : Nat → Prop} {ι : Places} {w : World} (s : Sim X h ι w) {b : Nat} : ∀ {xs ys : List AV} {o : Nat}, GVs src h h' xs ys → Dv.Vc w (Own X ι) xs ι b o → Dv.Vc w (Own X (plc src h' ι)) ys (plc src h' ι) b o
  | _, _, _, .nil, hv => by simp only [Dv.Vc]
  | _, _, _, .cons h1 hr, hv => by
      simp only [Dv.Vc] at hv ⊢
      obtain ⟨⟨v, e, h0, hv1⟩, hv2⟩ := hv
      exact ⟨⟨v, e, h0, h1 X ι w v s hv1⟩, hr.Vc s hv2⟩
theorem GV.wk {x y : AV} (hi : immD x = true) (hw : Wk x y) : GV src h h' x y := fun _ _ _ _ _ hv => hw.V (immD_V _ _ hi (V_keep plc_keep _ _ (Sub.refl _) hv))
theorem GV.imm {x : AV} (hi : immD x = true) : GV src h h' x x := GV.wk hi .refl
theorem GV.any {x : AV} : GV src h h' x .any := fun _ _ _ _ _ _ => by simp only [V]
theorem GV.eq {x y : AV} (e : x = y) (hh : GV src h h' x x) : GV src h h' x y := e ▸ hh
theorem GV.int {k : IntKind} {n m : Int} (e : n = m) : GV src h h' (.int k n) (.int k m) := by subst e; exact GV.imm rfl
theorem GV.bool {n m : Bool} (e : n = m) : GV src h h' (.bool n) (.bool m) := by subst e; exact GV.imm rfl
theorem GVs.imm : ∀ {xs : List AV}, immDs xs = true → GVs src h h' xs xs
  | [], _ => .nil
  | _ :: _, hi => by
      simp only [immDs, Bool.and_eq_true] at hi
      exact .cons (GV.imm hi.1) (GVs.imm hi.2)
theorem GVs.wks : ∀ {xs ys : List AV}, immDs xs = true → Wks xs ys → GVs src h h' xs ys
  | _, _, _, .nil => .nil
  | _, _, hi, .cons hw hr => by
      simp only [immDs, Bool.and_eq_true] at hi
      exact .cons (GV.wk hi.1 hw) (GVs.wks hi.2 hr)
theorem plc_some {i j : Id} {ι : Places} {b : ABlock} (hj : h' j = some b) (hs : src j = some i) : plc src h' ι j = ι i := by simp only [plc, hj, hs]
theorem GV.rs {i j : Id} {b : ABlock} {sz st n st' m : Nat} (hj : h' j = some b) (hs : src j = some i) (e1 : st = st') (e2 : n = m) : GV src h h' (.rs i sz st n) (.rs j sz st' m) := by
  subst e1; subst e2
  intro X ι w v s hv
  simp only [V] at hv ⊢
  rw [plc_some hj hs]; exact hv
theorem GV.rp {i j : Id} {b : ABlock} {sz st st' k : Nat} (hj : h' j = some b) (hs : src j = some i) (e1 : st = st') : GV src h h' (.rp i sz st k) (.rp j sz st' k) := by
  subst e1
  intro X ι w v s hv
  simp only [V] at hv ⊢
  rw [plc_some hj hs]; exact hv
theorem GV.bp {i j : Id} {b : ABlock} {k : Nat} (hj : h' j = some b) (hs : src j = some i) : GV src h h' (.bp i k) (.bp j k) := by
  intro X ι w v s hv
  simp only [V] at hv ⊢
  rw [plc_some hj hs]; exact hv
theorem GV.mp {i j : Id} {b : ABlock} (hj : h' j = some b) (hs : src j = some i) : GV src h h' (.mp i) (.mp j) := by
  intro X ι w v s hv
  simp only [V] at hv ⊢
  rw [plc_some hj hs]; exact hv
theorem GV.nil {j : Id} {b : ABlock} {sz m : Nat} (hj : h' j = some b) (hs : src j = none) (hm : 0 = m) : GV src h h' .nsl (.rs j sz 0 m) := by
  subst hm
  intro X ι w v s hv
  simp only [V] at hv ⊢
  simp only [plc, hj, hs]
  exact ⟨hv, trivial, trivial⟩
theorem GV.agg {xs ys : List AV} (hs : GVs src h h' xs ys) : GV src h h' (.agg xs) (.agg ys) := fun X ι w v s hv => by
  simp only [V] at hv ⊢
  obtain ⟨a, e, h1⟩ := hv
  exact ⟨a, e, hs.Vs s h1⟩
theorem GV.tup {xs ys : List AV} (hs : GVs src h h' xs ys) : GV src h h' (.tup xs) (.tup ys) := fun X ι w v s hv => by
  simp only [V] at hv ⊢
  obtain ⟨a, e, h1⟩ := hv
  exact ⟨a, e, hs.Vs s h1⟩
theorem GV.fn {f : FuncId} {xs ys : List AV} (hs : GVs src h h' xs ys) : GV src h h' (.fn f xs) (.fn f ys) := fun X ι w v s hv => by
  simp only [V] at hv ⊢
  obtain ⟨a, e, h1⟩ := hv
  exact ⟨a, e, hs.Vs s h1⟩
theorem gone {X : Nat → Prop} {ι : Places} {w : World} (s : Sim X h ι w) {i : Id} {b c : Nat} (hl : ι i = some (.at b c)) (hd : ∀ j, (h' j).isSome = true → src j ≠ some i) : ¬ Own X (plc src h' ι) b := by
  rintro (hx | ⟨j, d, ej⟩)
  · exact s.apart i b c hl hx
  · simp only [plc] at ej
    split at ej
    · cases ej
    · rename_i b' hb'
      split at ej
      · rename_i i' hi'
        have := s.inj i' i b d c ej hl
        subst this
        exact hd j (by rw [hb']; rfl) hi'
      · cases ej
theorem immVc {w : World} {own : Nat → Prop} {ι ι' : Places} : ∀ (xs : List AV) (b o : Nat), immDs xs = true → Vc w own xs ι b o → Vc w own xs ι' b o
  | [], _, _, _, _ => by simp only [Vc]
  | c :: cs, b, o, hi, hv => by
      simp only [immDs, Bool.and_eq_true] at hi
      simp only [Vc] at hv ⊢
      obtain ⟨⟨v, e, h0, h1⟩, h2⟩ := hv
      exact ⟨⟨v, e, h0, immD_V _ _ hi.1 h1⟩, immVc cs b (o + 1) hi.2 h2⟩
/-- A row given away. -/
theorem GV.frz {i : Id} {imm : Bool} {sz st len m k : Nat} {f g : Nat → List AV} (hd : ∀ j, (h' j).isSome = true → src j ≠ some i) (hh : h i = some (.row imm sz k f)) (hk : st + len ≤ k) (hm : len = m) (hf : ∀ x, x < len → GVs src h h' (f (st + x)) (g x)) (hg : ∀ x, x < len → immDs (g x) = true) :
    GV src h h' (.rs i sz st len) (.sl sz m g) := by
  intro X ι w v s hv
  subst hm
  simp only [V] at hv ⊢
  cases hl : ι i with
  | none => rw [hl] at hv; exact hv.elim
  | some l =>
    have hb := s.rel i _ l hh hl
    rw [hl] at hv
    cases l with
    | ghost => exact hv.elim
    | nil =>
      simp only at hv
      obtain ⟨e, e1, e2⟩ := hv
      subst e1; subst e2
      exact ⟨none, 0, e, Nat.le_refl _, Nat.zero_le _, .inl rfl⟩
    | «at» b c =>
      simp only at hv
      obtain ⟨p, e, h1, h2, h3⟩ := hv
      refine ⟨some p, c - st, e, by omega, h2, ?_⟩
      by_cases h0 : len = 0
      · exact .inl h0
      · right
        obtain ⟨arr, T, e1, h4, h5, h6⟩ := hb
        have hp : p = ⟨b, st * sz, none⟩ := h3.resolve_left (by omega)
        refine ⟨b, st * sz, by rw [hp], s.lt hl, gone s hl hd, fun x hx => ?_⟩
        have h7 := h6 (st + x) (by omega)
        have h8 := (hf x hx).Vc s (Vc_weak' imm _ _ _ h7.2)
        refine ⟨by rw [← (hf x hx).len]; exact h7.1, ?_⟩
        rw [← Nat.add_mul]
        exact immVc _ _ _ (hg x hx) h8
/-- A box given away. -/
theorem GV.frzB {i : Id} {imm : Bool} {sz k : Nat} {f : Nat → List AV} {cs : List AV} (hd : ∀ j, (h' j).isSome = true → src j ≠ some i) (hh : h i = some (.row imm sz k f)) (hk : 0 < k) (hf : GVs src h h' (f 0) cs) (hg : immDs cs = true) :
    GV src h h' (.bp i 0) (.ip cs) := by
  intro X ι w v s hv
  simp only [V] at hv ⊢
  cases hl : ι i with
  | none => rw [hl] at hv; exact hv.elim
  | some l =>
    have hb := s.rel i _ l hh hl
    rw [hl] at hv
    cases l with
    | ghost => exact hv.elim
    | nil => exact hv.elim
    | «at» b c =>
      obtain ⟨arr, T, e1, h4, h5, h6⟩ := hb
      have h7 := h6 0 hk
      have h8 := hf.Vc s (Vc_weak' imm _ _ _ h7.2)
      rw [Nat.zero_mul] at h8
      exact ⟨b, 0, hv, s.lt hl, gone s hl hd, immVc _ _ _ hg h8⟩
end
/-- What becomes of a block. -/
def GB (src : Id → Option Id) (h h' : AHeap) (b0 b : ABlock) : Prop := ∀ (X : Nat → Prop) (ι : Places) (w : World) (l : Loc), Sim X h ι w → BRel w (Own X ι) ι b0 l → BRel w (Own X (plc src h' ι)) (plc src h' ι) b l
section
variable {src : Id → Option Id} {h h' : AHeap}
theorem GB.row {imm imm' : Bool} {sz n n' : Nat} {f g : Nat → List AV} (hn : n' ≤ n) (hf : ∀ i, i < n' → GVs src h h' (f i) (g i)) (hg : imm' = true → ∀ i, i < n' → immDs (g i) = true) : GB src h h' (.row imm sz n f) (.row imm' sz n' g) := by
  intro X ι w l s hr
  cases l with
  | ghost => trivial
  | nil => simp only [BRel] at hr ⊢; omega
  | «at» b c =>
    simp only [BRel] at hr ⊢
    obtain ⟨arr, T, h1, h2, h3, h4⟩ := hr
    refine ⟨arr, T, h1, by omega, h3, fun i hi => ?_⟩
    have h5 := h4 i (by omega)
    have h6 := (hf i hi).Vc s (Vc_weak' imm _ _ _ h5.2)
    refine ⟨by rw [← (hf i hi).len]; exact h5.1, ?_⟩
    cases imm' with
    | true => exact immVc _ _ _ (hg rfl i hi) h6
    | false => exact h6
theorem GB.rowI {imm imm' : Bool} {sz n n' : Nat} {f g : Nat → List AV} (hn : n' ≤ n) (hf : ∀ i, i < n' → immDs (f i) = true ∧ f i = g i) : GB src h h' (.row imm sz n f) (.row imm' sz n' g) :=
  GB.row hn (fun i hi => by rw [← (hf i hi).2]; exact GVs.imm (hf i hi).1) (fun _ i hi => by rw [← (hf i hi).2]; exact (hf i hi).1)
end
/-- Another view of a state: names changed, blocks dropped (given away), nil slices as rows. -/
theorem Weak.gen {n : Nat} {L : List Id} {σ τ : ASt} (src : Id → Option Id) (inj : ∀ j j' i, (τ.h j).isSome = true → (τ.h j').isSome = true → src j = some i → src j' = some i → j = j')
    (hh : ∀ j b, τ.h j = some b → match src j with | some i => ∃ b0, σ.h i = some b0 ∧ GB src σ.h τ.h b0 b | none => ∃ imm sz g, b = .row imm sz 0 g)
    (ht : ∀ t, GV src σ.h τ.h (σ.tm t) (τ.tm t)) (hL : ∀ i ∈ L, pinId i = true → (τ.h i).isSome = true ∧ src i = some i) : Weak n L σ τ := by
  intro X ι a w s
  refine ⟨plc src τ.h ι, ⟨⟨fun j => ?_, fun j blk l e1 e2 => ?_, fun j j' b c d e1 e2 => ?_, fun j b c e => ?_, s.sim.below⟩, s.defers, s.size, fun t => ht t X ι w _ s.sim (s.tm t)⟩, ⟨⟨Fr.refl _ _, fun b h => .inl (plc_mine h)⟩, fun i hi hp l _ e => ?_⟩⟩
  · simp only [plc]
    cases e : τ.h j with
    | none => rfl
    | some b =>
      have := hh j b e
      cases hs : src j with
      | none => rfl
      | some i =>
        rw [hs] at this
        obtain ⟨b0, h1, _⟩ := this
        simp only [s.sim.dom i, h1]; rfl
  · have := hh j blk e1
    simp only [plc, e1] at e2
    cases hs : src j with
    | none =>
      rw [hs] at this e2
      obtain ⟨imm, sz, g, rfl⟩ := this
      cases e2; rfl
    | some i =>
      rw [hs] at this e2
      obtain ⟨b0, h1, h2⟩ := this
      exact h2 X ι w l s.sim (s.sim.rel i b0 l h1 e2)
  · simp only [plc] at e1 e2
    split at e1
    · cases e1
    · rename_i x hx
      split at e2
      · cases e2
      · rename_i y hy
        split at e1
        · rename_i i hi
          split at e2
          · rename_i i' hi'
            have := s.sim.inj i i' b c d e1 e2
            subst this
            exact inj j j' i (by rw [hx]; rfl) (by rw [hy]; rfl) hi hi'
          · cases e2
        · cases e1
  · simp only [plc] at e
    split at e
    · cases e
    · split at e
      · exact s.sim.apart _ b c e
      · cases e
  · obtain ⟨h1, h2⟩ := hL i hi hp
    cases hb : τ.h i with
    | none => rw [hb] at h1; cases h1
    | some b => simp only [plc, hb, h2]; exact e
end Dv
namespace Dv
open Go
/-! ### Families of blocks -/
def famC (k : Nat) (g : Nat → Nat → Option ABlock) : AHeap := fun j => bif Nat.beq j.1 k then g j.2.1 j.2.2 else none
def orH (a b : AHeap) : AHeap := fun j => match a j with
  | some x => some x
  | none => b j
def noH : AHeap := fun _ => none
/-- A state whose memory is some blocks, and others told by a function. -/
def mkF (tl : List (Nat × AV)) (hl : List (Id × ABlock)) (F : AHeap) : ASt := ⟨lookT tl, orH (lookH hl) F⟩
/-- New names, whence they come (none: a nil slice); all others are as they were. -/
def srcL : List (Id × Option Id) → Id → Option Id
  | [], j => some j
  | (c, o) :: r, j => bif idEq c j then o else srcL r j
theorem srcL_spec : ∀ (S : List (Id × Option Id)) (j : Id), (∃ o, (j, o) ∈ S ∧ srcL S j = o) ∨ (j ∉ S.map (·.1) ∧ srcL S j = some j)
  | [], j => .inr ⟨by simp, rfl⟩
  | (c, o) :: r, j => by
      simp only [srcL]
      cases e : idEq c j with
      | true => have := idEq_iff.1 e; subst this; exact .inl ⟨o, by simp, rfl⟩
      | false =>
        have hne := idEq_false.1 e
        rcases srcL_spec r j with ⟨o', h1, h2⟩ | ⟨h1, h2⟩
        · exact .inl ⟨o', by simp [h1], h2⟩
        · exact .inr ⟨by simp only [List.map_cons, List.mem_cons, not_or]; exact ⟨Ne.symm hne, h1⟩, h2⟩
def tgts : List (Id × Option Id) → List Id
  | [] => []
  | (_, some i) :: r => i :: tgts r
  | (_, none) :: r => tgts r
theorem mem_tgts {S : List (Id × Option Id)} {j i : Id} (h : (j, some i) ∈ S) : i ∈ tgts S := by
  induction S with
  | nil => cases h
  | cons p r ih =>
    obtain ⟨c, o⟩ := p
    rcases List.mem_cons.1 h with e | e
    · cases e; simp [tgts]
    · cases o with
      | none => simp only [tgts]; exact ih e
      | some i' => simp only [tgts]; exact List.mem_cons_of_mem _ (ih e)
theorem tgts_one {S : List (Id × Option Id)} (hn : nodupI (tgts S) = true) {j j' i : Id} (h : (j, some i) ∈ S) (h' : (j', some i) ∈ S) : j = j' := by
  induction S with
  | nil => cases h
  | cons p r ih =>
    obtain ⟨c, o⟩ := p
    cases o with
    | none =>
      simp only [tgts] at hn
      rcases List.mem_cons.1 h with e | e
      · cases e
      · rcases List.mem_cons.1 h' with e' | e'
        · cases e'
        · exact ih hn e e'
    | some i0 =>
      simp only [tgts, nodupI, Bool.and_eq_true] at hn
      rcases List.mem_cons.1 h with e | e
      · cases e
        rcases List.mem_cons.1 h' with e' | e'
        · cases e'; rfl
        · exact absurd (mem_tgts e') (idNotIn_spec hn.1)
      · rcases List.mem_cons.1 h' with e' | e'
        · cases e'; exact absurd (mem_tgts e) (idNotIn_spec hn.1)
        · exact ih hn.2 e e'
theorem srcL_inj {S : List (Id × Option Id)} {h' : AHeap} (hn : nodupI (tgts S) = true) (hf : ∀ i ∈ tgts S, h' i = none ∨ i ∈ S.map (·.1)) (j j' i : Id) (e1 : (h' j).isSome = true) (e2 : (h' j').isSome = true) (h1 : srcL S j = some i) (h2 : srcL S j' = some i) : j = j' := by
  rcases srcL_spec S j with ⟨o, a, b⟩ | ⟨a, b⟩
  · rcases srcL_spec S j' with ⟨o', a', b'⟩ | ⟨a', b'⟩
    · rw [h1] at b; rw [h2] at b'; subst b; subst b'
      exact tgts_one hn a a'
    · rw [h1] at b; subst b
      rw [h2] at b'; cases b'
      rcases hf _ (mem_tgts a) with h | h
      · rw [h] at e2; cases e2
      · exact absurd h a'
  · rcases srcL_spec S j' with ⟨o', a', b'⟩ | ⟨a', b'⟩
    · rw [h2] at b'; subst b'
      rw [h1] at b; cases b
      rcases hf _ (mem_tgts a') with h | h
      · rw [h] at e1; cases e1
      · exact absurd h a
    · rw [h1] at b; rw [h2] at b'; cases b; cases b'; rfl
/-- What becomes of blocks that are written out. -/
inductive HLs (src : Id → Option Id) (h h' : AHeap) : List (Id × ABlock) → Prop where
  | nil : HLs src h h' []
  | old {j i : Id} {b0 b : ABlock} {r : List (Id × ABlock)} (hs : src j = some i) (hi : h i = some b0) (hb : GB src h h' b0 b) (hr : HLs src h h' r) : HLs src h h' ((j, b) :: r)
  | new {j : Id} {imm : Bool} {sz : Nat} {g : Nat → List AV} {r : List (Id × ABlock)} (hs : src j = none) (hr : HLs src h h' r) : HLs src h h' ((j, .row imm sz 0 g) :: r)
def HOk (src : Id → Option Id) (h h' : AHeap) (j : Id) (b : ABlock) : Prop := match src j with
  | some i => ∃ b0, h i = some b0 ∧ GB src h h' b0 b
  | none => ∃ imm sz g, b = .row imm sz 0 g
theorem HLs.spec {src : Id → Option Id} {h h' : AHeap} {j : Id} {b : ABlock} : ∀ {l : List (Id × ABlock)}, HLs src h h' l → lookH l j = some b → HOk src h h' j b
  | _, .nil, e => by cases e
  | _, .old (j := k) hs hi hb hr, e => by
      simp only [lookH] at e
      cases e1 : idEq k j with
      | true => have := idEq_iff.1 e1; subst this; rw [e1] at e; cases e; unfold HOk; rw [hs]; exact ⟨_, hi, hb⟩
      | false => rw [e1] at e; exact hr.spec e
  | _, .new (j := k) hs hr, e => by
      simp only [lookH] at e
      cases e1 : idEq k j with
      | true => have := idEq_iff.1 e1; subst this; rw [e1] at e; cases e; unfold HOk; rw [hs]; exact ⟨_, _, _, rfl⟩
      | false => rw [e1] at e; exact hr.spec e
inductive TLg (src : Id → Option Id) (h h' : AHeap) (tm : Nat → AV) : List (Nat × AV) → Prop where
  | nil : TLg src h h' tm []
  | cons {t : Nat} {y : AV} {r : List (Nat × AV)} (hv : GV src h h' (tm t) y) (hr : TLg src h h' tm r) : TLg src h h' tm ((t, y) :: r)
theorem TLg.spec {src : Id → Option Id} {h h' : AHeap} {tm : Nat → AV} : ∀ {l : List (Nat × AV)} (t : Nat), TLg src h h' tm l → GV src h h' (tm t) (lookT l t)
  | [], _, _ => GV.any
  | (u, y) :: r, t, .cons hv hr => by
      simp only [lookT]
      cases e : Nat.beq u t with
      | true => have := Nat.eq_of_beq_eq_true e; subst this; exact hv
      | false => exact hr.spec t
theorem Weak.fam {n : Nat} {L : List Id} {σ : ASt} {tl : List (Nat × AV)} {hl : List (Id × ABlock)} {F : AHeap} (S : List (Id × Option Id)) (hn : nodupI (tgts S) = true) (hf : ∀ i ∈ tgts S, orH (lookH hl) F i = none ∨ i ∈ S.map (·.1))
    (ht : TLg (srcL S) σ.h (orH (lookH hl) F) σ.tm tl) (hh : HLs (srcL S) σ.h (orH (lookH hl) F) hl) (hF : ∀ j b, F j = some b → HOk (srcL S) σ.h (orH (lookH hl) F) j b)
    (hL : ∀ i ∈ L, pinId i = true → (orH (lookH hl) F i).isSome = true ∧ srcL S i = some i) : Weak n L σ (mkF tl hl F) := by
  refine Weak.gen (τ := mkF tl hl F) (srcL S) (srcL_inj hn hf) (fun j b e => ?_) (fun t => ht.spec t) hL
  have e' : orH (lookH hl) F j = some b := e
  have : HOk (srcL S) σ.h (orH (lookH hl) F) j b := by
    unfold orH at e'
    cases e1 : lookH hl j with
    | some x => rw [e1] at e'; cases e'; exact hh.spec e1
    | none => rw [e1] at e'; exact hF j b e'
  exact this
/-! ### Calls that leave such memory -/
def HF (P : Program) (f : FuncId) (args : List AV) (r : AV) (h1 : AHeap) : Prop :=
  Callable P f ∧ ∀ (X : Nat → Prop) (w : World) (vals : List Value), (∀ b, X b → b < w.heap.size) → Vs w X args ι0 vals →
    Calls P f vals.toArray w fun e w' => ∃ v ι', e = .returned v ∧ Fr (fun _ => False) w w' ∧ Sim X h1 ι' w' ∧ (∀ b, Mine ι' b → w.heap.size ≤ b) ∧ V w' (Own X ι') r ι' v
def LeavesF (T : Types) (fn : Func) (r : AV) (h1 : AHeap) (e : Exit) (τ : ASt) : Prop := match e with
  | .ret | .normal => ∃ xs src, retAll T τ fn.results.toList = some xs ∧ (∀ j j' i, (h1 j).isSome = true → (h1 j').isSome = true → src j = some i → src j' = some i → j = j') ∧ (∀ j b, h1 j = some b → HOk src τ.h h1 j b) ∧ GV src τ.h h1 (retAV xs) r
  | _ => False
theorem sim_gen {X : Nat → Prop} {h h' : AHeap} {ι : Places} {w : World} (s : Sim X h ι w) (src : Id → Option Id) (inj : ∀ j j' i, (h' j).isSome = true → (h' j').isSome = true → src j = some i → src j' = some i → j = j')
    (hh : ∀ j b, h' j = some b → HOk src h h' j b) : Sim X h' (plc src h' ι) w := by
  have st : St 0 X ⟨fun _ => .any, h⟩ ι { tmps := #[], defers := [] } w := ⟨s, rfl, rfl, fun t => by simp only [V]⟩
  obtain ⟨_, s', _⟩ : ∃ ι', St 0 X ⟨fun _ => .any, h'⟩ ι' { tmps := #[], defers := [] } w ∧ ι' = plc src h' ι := by
    refine ⟨_, ⟨?_, rfl, rfl, fun t => by simp only [V]⟩, rfl⟩
    refine ⟨fun j => ?_, fun j blk l e1 e2 => ?_, fun j j' b c d e1 e2 => ?_, fun j b c e => ?_, s.below⟩
    · simp only [plc]
      cases e : h' j with
      | none => rfl
      | some b =>
        have := hh j b e
        unfold HOk at this
        cases hs : src j with
        | none => rfl
        | some i =>
          rw [hs] at this
          obtain ⟨b0, h1, _⟩ := this
          simp only [s.dom i, h1]; rfl
    · have := hh j blk e1
      unfold HOk at this
      simp only [plc] at e2
      have e1' : h' j = some blk := e1
      rw [e1'] at e2
      cases hs : src j with
      | none =>
        rw [hs] at this e2
        obtain ⟨imm, sz, g, rfl⟩ := this
        cases e2; rfl
      | some i =>
        rw [hs] at this e2
        obtain ⟨b0, h1, h2⟩ := this
        exact h2 X ι w l s (s.rel i b0 l h1 e2)
    · simp only [plc] at e1 e2
      split at e1
      · cases e1
      · rename_i x hx
        split at e2
        · cases e2
        · rename_i y hy
          split at e1
          · rename_i i hi
            split at e2
            · rename_i i' hi'
              have := s.inj i i' b c d e1 e2
              subst this
              exact inj j j' i (by rw [hx]; rfl) (by rw [hy]; rfl) hi hi'
            · cases e2
          · cases e1
    · simp only [plc] at e
      split at e
      · cases e
      · split at e
        · exact s.apart _ b c e
        · cases e
  subst_vars
  exact s'.sim
theorem HF_intro {P : Program} {T : Types} (hT : TOk P T) {f : FuncId} {fn : Func} {c : Code} {args : List AV} {r : AV} {h1 : AHeap} (hf : P.funcs[f]? = some fn) (hb : fn.body = some c) (hname : (fn.name == "runtime.NumGoroutine") = false) (hn : args.length ≤ fn.ntmps)
    (h : AWp P fn.ntmps [] c (LeavesF T fn r h1) (entry args)) : HF P f args r h1 := by
  refine ⟨⟨fn, hf, by rw [hb]; rfl, hname⟩, fun X w vals hX hV => ?_⟩
  refine AWp.calls hf hb h (entry_St (n := fn.ntmps) hX hV hn) ?_ (fun _ _ h => h)
  rintro e τ ι' a' w' hq hs hg
  have hfr : Fr (fun _ => False) w w' := hg.goes.fr.weak (fun x hx => by
    obtain ⟨i, c, e⟩ := hx
    cases e)
  have hnew : ∀ b, Mine ι' b → w.heap.size ≤ b := fun b hb => by
    rcases hg.goes.ext b hb with ⟨i, d, e⟩ | h
    · cases e
    · exact h
  have fin : (∃ xs src, retAll T τ fn.results.toList = some xs ∧ (∀ j j' i, (h1 j).isSome = true → (h1 j').isSome = true → src j = some i → src j' = some i → j = j') ∧ (∀ j b, h1 j = some b → HOk src τ.h h1 j b) ∧ GV src τ.h h1 (retAV xs) r) →
      a'.defers = [] ∧ ∃ v, (results fn a'.tmps).run P w' = .ok v w' ∧ ∃ v' ι', Ending.returned v = .returned v' ∧ Fr (fun _ => False) w w' ∧ Sim X h1 ι' w' ∧ (∀ b, Mine ι' b → w.heap.size ≤ b) ∧ V w' (Own X ι') r ι' v' := by
    rintro ⟨xs, src, e1, e2, e3, e4⟩
    obtain ⟨v, h3, h4⟩ := results_ok (P := P) hT hs e1
    exact ⟨hs.defers, v, h3, v, plc src h1 ι', rfl, hfr, sim_gen hs.sim src e2 e3, fun b hb => hnew b (plc_mine hb), e4 X ι' w' v hs.sim h4⟩
  cases e with
  | ret => exact fin hq
  | normal => exact fin hq
  | _ => exact hq.elim
/-- Given away, it answers in values that stay. -/
theorem HF.fc {P : Program} {f : FuncId} {args : List AV} {r y : AV} {h1 : AHeap} (h : HF P f args r h1) (hr : Rel h1 r y) : FC P f args y := by
  refine ⟨h.1, fun X w vals hX hV => ?_⟩
  refine (h.2 X w vals hX hV).mono ?_
  rintro e w' ⟨v, ι', rfl, h2, h3, _, h5⟩
  exact ⟨v, rfl, h2, hr X ι' w' v h3 h5⟩
/-- A call of such a one, whose names are free. -/
theorem QH.ofF {P : Program} {h : AHeap} {f : FuncId} {args : List AV} {r : AV} {h1 : AHeap} (hc : HF P f args r h1) (hi : immDs args = true) (hfree : ∀ i, (h1 i).isSome = true → h i = none) : QH P h f args [] h1 r := by
  refine ⟨hc.1, fun X ι w vals s hV => ?_⟩
  refine (hc.2 (Own X ι) w vals (fun b hb => s.own_lt hb) (immD_Vs _ _ hi hV)).mono ?_
  rintro e w' ⟨v, ι', rfl, hfr, s', hnew, hv⟩
  let κ : Places := fun j => match h1 j with
    | some _ => ι' j
    | none => ι j
  have κ1 : ∀ {j}, (h1 j).isSome = true → κ j = ι' j := fun {j} e => by
    simp only [κ]; cases hb : h1 j with
    | none => rw [hb] at e; cases e
    | some b => rfl
  have κ0 : ∀ {j}, h1 j = none → κ j = ι j := fun {j} e => by simp only [κ, e]
  have hmine : ∀ b, Mine κ b → Mine ι b ∨ Mine ι' b := by
    rintro b ⟨j, c, e⟩
    cases hb : h1 j with
    | none => rw [κ0 hb] at e; exact .inl ⟨j, c, e⟩
    | some x => rw [κ1 (by rw [hb]; rfl)] at e; exact .inr ⟨j, c, e⟩
  have sub : Sub ι κ := fun j l e => by
    cases hb : h1 j with
    | none => rw [κ0 hb]; exact e
    | some x =>
      have := s.lost (hfree j (by rw [hb]; rfl))
      rw [this] at e; cases e
  have sub' : Sub ι' κ := fun j l e => by
    cases hb : h1 j with
    | none => have := s'.lost hb; rw [this] at e; cases e
    | some x => rw [κ1 (by rw [hb]; rfl)]; exact e
  have k : Keep w w' (Own X ι) (Own X κ) := ⟨hfr.size, fun b hb _ => hfr.block b hb (fun h => h), fun b hb h => h.imp id (fun hm => (hmine b hm).resolve_right (fun h2 => by have := hnew b h2; omega))⟩
  have k' : Keep w' w' (Own (Own X ι) ι') (Own X κ) := ⟨Nat.le_refl _, fun _ _ _ => rfl, fun b _ h => by
    rcases h with h | h
    · exact .inl (.inl h)
    · rcases hmine b h with h2 | h2
      · exact .inl (.inr h2)
      · exact .inr h2⟩
  refine ⟨v, κ, rfl, ⟨fun j => ?_, fun j blk l e1 e2 => ?_, fun j j' b c d e1 e2 => ?_, fun j b c e => ?_, fun b hb => Nat.lt_of_lt_of_le (s.below b hb) hfr.size⟩, fun y u' hy => V_keep k _ _ sub hy, V_keep k' _ _ sub' hv, ⟨hfr.weak (fun _ h => h.elim), fun b hb => (hmine b hb).imp id (hnew b)⟩⟩
  · simp only [bigH]
    cases hb : h1 j with
    | none => rw [κ0 hb, s.dom j]; simp only [memI, cond_false]; cases h j <;> rfl
    | some x => rw [κ1 (by rw [hb]; rfl), s'.dom j, hb]
  · simp only [bigH] at e1
    cases hb : h1 j with
    | some x =>
      rw [hb] at e1; cases e1
      rw [κ1 (by rw [hb]; rfl)] at e2
      exact BRel_keep k' sub' _ _ (fun _ _ _ => rfl) (s'.rel j _ l hb e2)
    | none =>
      rw [hb] at e1
      rw [κ0 hb] at e2
      simp only [memI, cond_false] at e1
      cases hh : h j with
      | none => rw [hh] at e1; cases e1
      | some b0 =>
        rw [hh] at e1
        simp only [Option.map_some, Option.some.injEq] at e1
        subst e1
        refine BRel_keep k sub _ _ (fun b c hl => ?_) (s.rel j b0 l hh e2)
        subst hl
        exact hfr.block b (s.lt e2) (fun h => h)
  · cases hb : h1 j with
    | none =>
      rw [κ0 hb] at e1
      cases hb' : h1 j' with
      | none => rw [κ0 hb'] at e2; exact s.inj _ _ _ _ _ e1 e2
      | some x =>
        rw [κ1 (by rw [hb']; rfl)] at e2
        have := s.lt e1; have := hnew b ⟨_, _, e2⟩; omega
    | some x =>
      rw [κ1 (by rw [hb]; rfl)] at e1
      cases hb' : h1 j' with
      | none =>
        rw [κ0 hb'] at e2
        have := s.lt e2; have := hnew b ⟨_, _, e1⟩; omega
      | some x' => rw [κ1 (by rw [hb']; rfl)] at e2; exact s'.inj _ _ _ _ _ e1 e2
  · cases hb : h1 j with
    | none => rw [κ0 hb] at e; exact s.apart _ _ _ e
    | some x => rw [κ1 (by rw [hb]; rfl)] at e; exact fun hx => s'.apart _ _ _ e (.inl hx)
end Dv
namespace Dv
open Go
def notSrc (S : List (Id × Option Id)) (i : Id) : List (Id × ABlock) → Bool
  | [] => true
  | (j, _) :: r => (match srcL S j with | some i' => !(idEq i' i) | none => true) && notSrc S i r
theorem hd_of {S : List (Id × Option Id)} {F : AHeap} {i : Id} : ∀ {hl : List (Id × ABlock)}, notSrc S i hl = true → (∀ j, (F j).isSome = true → srcL S j ≠ some i) → ∀ j, (orH (lookH hl) F j).isSome = true → srcL S j ≠ some i := by
  intro hl hn hF j hj
  unfold orH at hj
  cases e : lookH hl j with
  | none => rw [e] at hj; exact hF j hj
  | some b =>
    clear hj
    induction hl with
    | nil => cases e
    | cons p r ih =>
      obtain ⟨k, c⟩ := p
      simp only [notSrc, Bool.and_eq_true] at hn
      simp only [lookH] at e
      cases e1 : idEq k j with
      | true =>
        have := idEq_iff.1 e1; subst this
        intro e2
        rw [e2] at hn
        simp [idEq_iff.2 rfl] at hn
      | false => rw [e1] at e; exact ih hn.2 e
theorem hd_no {S : List (Id × Option Id)} {i : Id} {hl : List (Id × ABlock)} (hn : notSrc S i hl = true) : ∀ j, (orH (lookH hl) noH j).isSome = true → srcL S j ≠ some i := hd_of hn (fun _ h => by cases h)
theorem noF {P : Id → ABlock → Prop} : ∀ j b, noH j = some b → P j b := fun _ _ h => by cases h
theorem lt0 {P : Nat → Prop} : ∀ x, x < 0 → P x := fun x h => absurd h (Nat.not_lt_zero x)
theorem ltS {P : Nat → Prop} {n : Nat} (h0 : P 0) (h : ∀ x, x < n → P (x + 1)) : ∀ x, x < n + 1 → P x := fun x hx => match x, hx with
  | 0, _ => h0
  | x + 1, hx => h x (Nat.lt_of_succ_lt_succ hx)
/-- One row, told anew. -/
theorem GB.one {src : Id → Option Id} {h h' : AHeap} {imm imm' : Bool} {sz : Nat} {f g : Nat → List AV} (hf : GVs src h h' (f 0) (g 0)) (hg : imm' = true → immDs (g 0) = true) : GB src h h' (.row imm sz 1 f) (.row imm' sz 1 g) :=
  GB.row (Nat.le_refl _) (ltS hf lt0) (fun e => ltS (hg e) lt0)
end Dv
namespace Dv
open Go
theorem GVs.upd {src : Id → Option Id} {h h' : AHeap} {F : Nat → List AV} {K x : Nat} {C ys : List AV} (h1 : x = K → GVs src h h' C ys) (h2 : x ≠ K → GVs src h h' (F x) ys) : GVs src h h' (updR F K C x) ys := by
  unfold updR
  cases e : Nat.beq K x with
  | true => exact h1 (Nat.eq_of_beq_eq_true e).symm
  | false => exact h2 (fun h => by subst h; simp at e)
theorem GVs.eqI {src : Id → Option Id} {h h' : AHeap} {xs ys : List AV} (hi : immDs ys = true) (e : xs = ys) : GVs src h h' xs ys := by subst e; exact GVs.imm hi
end Dv
namespace Dv
open Go
/-- What is read, told plainly. -/
theorem fAV {x y : AV} {k : AV → Prop} (e : x = y) (h : forceAV y k) : forceAV x k := e ▸ h
theorem orH_some {a b : AHeap} {j : Id} {x : ABlock} (h : orH a b j = some x) : a j = some x ∨ (a j = none ∧ b j = some x) := by
  unfold orH at h
  cases e : a j with
  | none => rw [e] at h; exact .inr ⟨rfl, h⟩
  | some y => rw [e] at h; exact .inl h
theorem famC_some {k : Nat} {g : Nat → Nat → Option ABlock} {j : Id} {x : ABlock} (h : famC k g j = some x) : ∃ p q, j = (k, p, q) ∧ g p q = some x := by
  obtain ⟨a, p, q⟩ := j
  unfold famC at h
  simp only at h
  cases e : Nat.beq a k with
  | false => rw [e] at h; cases h
  | true => have := Nat.eq_of_beq_eq_true e; subst this; rw [e] at h; exact ⟨p, q, rfl, h⟩
theorem HOk.mk {src : Id → Option Id} {h h' : AHeap} {j i : Id} {b0 b : ABlock} (hs : src j = some i) (hi : h i = some b0) (hb : GB src h h' b0 b) : HOk src h h' j b := by
  unfold HOk; rw [hs]; exact ⟨b0, hi, hb⟩
end Dv
namespace Dv
open Go
theorem GV.cc {src : Id → Option Id} {h h' : AHeap} {x y x' y' : AV} (ex : x = x') (ey : y = y') (hv : GV src h h' x' y') : GV src h h' x y := ex ▸ ey ▸ hv
end Dv
namespace Dv
open Go
/-- A call's memory, told otherwise. -/
theorem HF.weak {P : Program} {f : FuncId} {args : List AV} {r r' : AV} {h1 h2 : AHeap} (h : HF P f args r h1) (src : Id → Option Id) (inj : ∀ j j' i, (h2 j).isSome = true → (h2 j').isSome = true → src j = some i → src j' = some i → j = j')
    (hh : ∀ j b, h2 j = some b → HOk src h1 h2 j b) (hv : GV src h1 h2 r r') : HF P f args r' h2 := by
  refine ⟨h.1, fun X w vals hX hV => ?_⟩
  refine (h.2 X w vals hX hV).mono ?_
  rintro e w' ⟨v, ι', rfl, a1, a2, a3, a4⟩
  exact ⟨v, plc src h2 ι', rfl, a1, sim_gen a2 src inj hh, fun b hb => a3 b (plc_mine hb), hv X ι' w' v a2 a4⟩
theorem some_inj (j j' i : Id) (h1 : some j = some i) (h2 : some j' = some i) : j = j' := by cases h1; cases h2; rfl
end Dv
namespace Dv
open Go
/-! ### max and min, taken by hand -/
section
variable {P : Program} {T : Types} {n : Nat} {L : List Id} {X : Nat → Prop} {all : List Oper} {σ : ASt} {ι : Places} {a : Act} {w : World}
theorem max_ok (s : St n X σ ι a w) {o : Oper} {c : Call} {x y : Operand} {k : IntKind} {p q : Int}
    (ho : o.op = .call c) (hc : c.callee = .builtin .max) (ha : c.args = #[x, y]) (hx : σ.opv x = .int k p) (hy : σ.opv y = .int k q) : OpOk P n X σ ι a w o (freshOf o) .none (.int k (max p q)) := by
  have h1 := s.opv x
  have h2 := s.opv y
  rw [hx] at h1
  rw [hy] at h2
  simp only [V] at h1 h2
  refine OpOk.pure s (.int k (max p q)) ?_ ?_
  · simp only [execOp, ho, resolve, hc, ha, Sem.run_bind, Sem.run_pure, Result.andThen_ok, invoke]
    simp only [builtin, Builtin.max_]
    have e : (if q > p then q else p) = max p q := by rw [Int.max_def]; split <;> split <;> omega
    simp [h1.1, h2.1, Builtin.max2, e]
  · simp only [V]
    refine ⟨trivial, ?_⟩
    rw [Int.max_def]; split <;> omega
theorem AWp_handK (hT : TOk P T) {id : Nat} {ops : Array Oper} {Q : Exit → ASt → Prop} {σ : ASt} (pre : List Oper) (o : Oper) (r : List Oper) (e : ops.toList = pre ++ o :: r) (hr : regOk n ops.toList = true) (hg : guardsOf ops.toList = []) (hog : o.guard = none)
    {K : ASt → Prop} (hK0 : ∀ τ, K τ → ∀ (X : Nat → Prop) ι a w, St n X τ ι a w → ∃ e : Eff, OpOk P n X τ ι a w o (freshOf o) e.up e.val ∧ Hand P T ops.toList pre.length o r τ (Q .normal) e)
    (h : FOps P T ops.toList (guardsOf ops.toList) 0 pre σ.tm σ.h K) : AWp P n L (.region id ops false) Q σ := by
  refine AWp.region hr (fun X ι a w s => ?_)
  have hR := regOk_spec hr
  have hlen : ops.size = pre.length + (1 + r.length) := by
    have := congrArg List.length e; simp at this; omega
  have hrange : List.range ops.size = List.range' 0 pre.length ++ (pre.length :: List.range' (pre.length + 1) r.length) := by
    rw [List.range_eq_range', hlen, ← List.range'_append (s := 0) (m := pre.length) (n := 1 + r.length) (step := 1), Nat.add_comm 1 r.length, List.range'_succ]
    simp
  rw [hrange]
  have key := FPre_sound (L := L) (all := ops.toList) (Q := fun e a' w' => e = .normal ∧ ∃ τ ι', Q .normal τ ∧ St n X τ ι' a' w' ∧ GoesP L X ι ι' w w') (rest := pre.length :: List.range' (pre.length + 1) r.length) (ι0 := ι) (w0 := w) hT hR hg ?_ pre 0 σ ι a w
    (fun j hj => by rw [e, Nat.zero_add, List.getElem?_append_left hj]) h (by simpa using StG.of_St (ops := ops) s) (GoesP.refl L X ι w)
  · simpa using key
  intro τ ι' a' w' hK hs hgo
  rw [wpOps_cons]
  have ho : ops.toList[pre.length]? = some o := by rw [e]; simp
  have ho' : ops.toList.toArray[pre.length]? = some o := by simpa using ho
  obtain ⟨ef, ⟨rr, v, w1, ι1, h1, h2, h3, h4, h5, h6⟩, hu, hK'⟩ := hK0 τ hK X ι' a' w' hs
  have hw : Region.wanted o (yielded ops.toList.toArray a'.tmps) = true := by simp [Region.wanted, hog]
  unfold wpOp
  rw [ho']
  simp only [hw, if_true]
  left
  have hS := StG.of_St (ops := ops.toList.toArray) hs
  have go : ∀ val, V w1 (Own X ι1) ef.val ι1 val → wpOps P ops.toList.toArray (fun e a' w' => e = .normal ∧ ∃ τ ι', Q .normal τ ∧ St n X τ ι' a' w' ∧ GoesP L X ι ι' w w') (List.range' (pre.length + 1) r.length) (a'.put o.dst val) w1 := by
    intro val hv
    have hh : Sim X (upS (freshOf o) ef.up τ).h ι1 w1 := h3
    refine FOps_sound (L := L) (K := Q .normal) (Q := fun e a' w' => e = .normal ∧ ∃ τ ι', Q .normal τ ∧ St n X τ ι' a' w' ∧ GoesP L X ι ι' w w') (ι0 := ι) (w0 := w) hT hR (fun τ ι' a' w' h1 h2 h3 => ⟨rfl, τ, ι', h1, h2, h3⟩) r (pre.length + 1) _ ι1 _ w1 (fun j => ?_) hK'
      (app_StG hR hS ho hu hh h4 (.inl ⟨hw, hv⟩)) (hgo.trans ⟨h6, pin_of hu h4⟩)
    rw [e, List.getElem?_append_right (by omega)]
    rw [show pre.length + 1 + j - pre.length = j + 1 by omega, List.getElem?_cons_succ]
  unfold Oper.wp
  rw [h1]
  rcases h2 with h2 | ⟨h2, h2'⟩
  · subst h2; exact go v h5
  · subst h2; subst h2'; exact go undef h5

/-- A region one operation of which, the k-th, is max. -/
theorem AWp_max (hT : TOk P T) {id : Nat} {ops : Array Oper} {Q : Exit → ASt → Prop} {σ : ASt} (k : Nat) {o : Oper} {r : List Oper} {c : Call} {x y : Operand} (e : ops.toList = ops.toList.take k ++ o :: r) (hr : regOk n ops.toList = true) (hg : guardsOf ops.toList = []) (hog : o.guard = none)
    (ho : o.op = .call c) (hc : c.callee = .builtin .max) (ha : c.args = #[x, y])
    (h : FOps P T ops.toList (guardsOf ops.toList) 0 (ops.toList.take k) σ.tm σ.h fun τ => ∃ kd p q, τ.opv x = .int kd p ∧ τ.opv y = .int kd q ∧ Hand P T ops.toList (ops.toList.take k).length o r τ (Q .normal) ⟨.int kd (max p q), .none, []⟩) : AWp P n L (.region id ops false) Q σ := by
  refine AWp_handK hT (ops.toList.take k) o r e hr hg hog (K := fun τ => ∃ kd p q, τ.opv x = .int kd p ∧ τ.opv y = .int kd q ∧ Hand P T ops.toList (ops.toList.take k).length o r τ (Q .normal) ⟨.int kd (max p q), .none, []⟩) ?_ h
  rintro τ ⟨kd, p, q, h1, h2, h3⟩ X ι a w s
  exact ⟨_, max_ok s ho hc ha h1 h2, h3⟩
end
end Dv
