/- Theory: functions of the program walked on abstract states. It says nothing of a program. -/
import Derived.Test.YtmkiahbnfmpieaaDvc2
import Derived.Maps.Range
set_option linter.unusedVariables false
set_option linter.unusedSimpArgs false
set_option linter.unnecessarySimpa false
namespace Dv
open Go Go.MapKept
/-! ### Operations that are taken by hand; a map gone through -/
section
variable {P : Program} {T : Types} {n : Nat} {L : List Id} {X : Nat → Prop} {all : List Oper}
theorem FPre_sound (hT : TOk P T) (hr : RegOk n all) (hg : guardsOf all = []) {K : ASt → Prop} {Q : Exit → Act → World → Prop} {rest : List Nat} {ι0 : Places} {w0 : World}
    (hQ : ∀ τ ι' a' w', K τ → St n X τ ι' a' w' → GoesP L X ι0 ι' w0 w' → wpOps P all.toArray Q rest a' w') : ∀ (pre : List Oper) (k : Nat) (σ : ASt) (ι : Places) (a : Act) (w : World), (∀ j, j < pre.length → pre[j]? = all[k + j]?) →
    FOps P T all (guardsOf all) k pre σ.tm σ.h K → StG all.toArray n X σ ι a w → GoesP L X ι0 ι w0 w → wpOps P all.toArray Q (List.range' k pre.length ++ rest) a w
  | [], k, σ, ι, a, w, _, h, s, hgo => by
      simp only [List.length_nil, List.range'_zero, List.nil_append]
      obtain ⟨τ, h1, h2⟩ := FOps_end s rfl h
      exact hQ _ ι a w h1 h2 hgo
  | o :: r, k, σ, ι, a, w, hrest, h, s, hgo => by
      have ho : all[k]? = some o := by have := hrest 0 (by simp); simpa using this.symm
      simp only [List.length_cons, List.range'_succ, List.cons_append]
      rw [wpOps_cons]
      have hrest' : ∀ j, j < r.length → r[j]? = all[k + 1 + j]? := fun j hj => by
        have := hrest (j + 1) (by simpa using hj); simpa [Nat.add_assoc, Nat.add_comm 1 j] using this
      cases hnt : nilTest T σ.tm σ.h o.guard o.op with
      | none =>
        exact next1_sound hT hr s ho (FOps_cons hnt h) (fun τ ι' a' w' hτ hs hg' => FPre_sound hT hr hg hQ r (k + 1) τ ι' a' w' hrest' hτ hs (hgo.trans hg'))
      | some mn =>
        obtain ⟨m, neg⟩ := mn
        refine nextD_sound hT hr s ho hnt (K := fun τ => FOps P T all (guardsOf all) (k + 1) r τ.tm τ.h K) (fun b hb => ?_) (fun τ ι' a' w' hτ hs hg' => FPre_sound hT hr hg hQ r (k + 1) τ ι' a' w' hrest' hτ hs (hgo.trans hg'))
        obtain ⟨d, op, ty, pos, after, g⟩ := o
        simp only [FOps] at h
        simp only at hnt
        rw [hnt] at h
        have h1 := h b hb
        have e2 : ∀ (k' : (Nat → AV) → Prop), fClear (guardsOf all) k σ.tm k' = k' (bif memN (guardsOf all) k then clearG k σ else σ).tm := by
          intro k'; unfold fClear; cases memN (guardsOf all) k <;> rfl
        rw [e2] at h1
        have e3 : ∀ (τ : ASt) (k' : (Nat → AV) → Prop), fPut d g (.bool b) τ.tm k' = k' (τ.put d (gval g (.bool b))).tm := by
          intro τ k'; unfold fPut; cases d with
          | none => rfl
          | some d => simp only [forceAV_eq]; rfl
        rw [e3] at h1
        have e4 : (appS all k ⟨d, op, ty, pos, after, g⟩ (.bool b) .none σ).h = σ.h := app_h
        rw [e4]
        exact h1
/-- What an operation that is taken by hand leaves; then the rest. -/
abbrev Hand (P : Program) (T : Types) (all : List Oper) (j : Nat) (o : Oper) (r : List Oper) (τ : ASt) (Q : ASt → Prop) (e : Eff) : Prop :=
  upOk all τ o e.up = true ∧ FOps P T all (guardsOf all) (j + 1) r (appS all j o e.val e.up τ).tm (appS all j o e.val e.up τ).h Q
/-- A region, one operation of which is taken by hand. -/
theorem AWp_hand (hT : TOk P T) {id : Nat} {ops : Array Oper} {Q : Exit → ASt → Prop} {σ : ASt} (pre : List Oper) (o : Oper) (r : List Oper) (e : ops.toList = pre ++ o :: r) (hr : regOk n ops.toList = true) (hg : guardsOf ops.toList = []) (hog : o.guard = none)
    (h : FOps P T ops.toList (guardsOf ops.toList) 0 pre σ.tm σ.h fun τ => ∀ (X : Nat → Prop) ι a w, St n X τ ι a w → ∃ e : Eff, OpOk P n X τ ι a w o (freshOf o) e.up e.val ∧ Hand P T ops.toList pre.length o r τ (Q .normal) e) : AWp P n L (.region id ops false) Q σ := by
  refine ⟨fun X ι a w s => ?_⟩
  refine wp_region ?_
  have hR := regOk_spec hr
  have hlen : ops.size = pre.length + (1 + r.length) := by
    have := congrArg List.length e; simp at this; omega
  have hrange : List.range ops.size = List.range' 0 pre.length ++ (pre.length :: List.range' (pre.length + 1) r.length) := by
    rw [List.range_eq_range', hlen, ← List.range'_append (s := 0) (m := pre.length) (n := 1 + r.length) (step := 1), Nat.add_comm 1 r.length, List.range'_succ]
    simp
  rw [hrange]
  have key := FPre_sound (L := L) (all := ops.toList) (Q := fun e a' w' => ∃ τ ι', Q e τ ∧ St n X τ ι' a' w' ∧ GoesP L X ι ι' w w') (rest := pre.length :: List.range' (pre.length + 1) r.length) (ι0 := ι) (w0 := w) hT hR hg ?_ pre 0 σ ι a w
    (fun j hj => by rw [e, Nat.zero_add, List.getElem?_append_left hj]) h (by simpa using StG.of_St (ops := ops) s) (GoesP.refl L X ι w)
  · simpa using key
  intro τ ι' a' w' hK hs hgo
  rw [wpOps_cons]
  have ho : ops.toList[pre.length]? = some o := by rw [e]; simp
  have ho' : ops.toList.toArray[pre.length]? = some o := by simpa using ho
  obtain ⟨ef, ⟨rr, v, w1, ι1, h1, h2, h3, h4, h5, h6⟩, hu, hK'⟩ := hK X ι' a' w' hs
  have hw : Region.wanted o (yielded ops.toList.toArray a'.tmps) = true := by simp [Region.wanted, hog]
  unfold wpOp
  rw [ho']
  simp only [hw, if_true]
  left
  have hS := StG.of_St (ops := ops.toList.toArray) hs
  have go : ∀ val, V w1 (Own X ι1) ef.val ι1 val → wpOps P ops.toList.toArray (fun e a' w' => ∃ τ ι', Q e τ ∧ St n X τ ι' a' w' ∧ GoesP L X ι ι' w w') (List.range' (pre.length + 1) r.length) (a'.put o.dst val) w1 := by
    intro val hv
    have hh : Sim X (upS (freshOf o) ef.up τ).h ι1 w1 := h3
    refine FOps_sound (L := L) (K := Q .normal) (Q := fun e a' w' => ∃ τ ι', Q e τ ∧ St n X τ ι' a' w' ∧ GoesP L X ι ι' w w') (ι0 := ι) (w0 := w) hT hR (fun τ ι' a' w' h1 h2 h3 => ⟨τ, ι', h1, h2, h3⟩) r (pre.length + 1) _ ι1 _ w1 (fun j => ?_) hK'
      (app_StG hR hS ho hu hh h4 (.inl ⟨hw, hv⟩)) (hgo.trans ⟨h6, pin_of hu h4⟩)
    rw [e, List.getElem?_append_right (by omega)]
    rw [show pre.length + 1 + j - pre.length = j + 1 by omega, List.getElem?_cons_succ]
  unfold Oper.wp
  rw [h1]
  rcases h2 with h2 | ⟨h2, h2'⟩
  · subst h2; exact go v h5
  · subst h2; subst h2'; exact go undef h5
theorem AWp_hand0 (hT : TOk P T) {id : Nat} {ops : Array Oper} {Q : Exit → ASt → Prop} {σ : ASt} {o : Oper} {r : List Oper} (e : ops.toList = o :: r) (hr : regOk n ops.toList = true) (hg : guardsOf ops.toList = []) (hog : o.guard = none)
    (h : ∀ (X : Nat → Prop) ι a w, St n X σ ι a w → ∃ e : Eff, OpOk P n X σ ι a w o (freshOf o) e.up e.val ∧ Hand P T ops.toList 0 o r σ (Q .normal) e) : AWp P n L (.region id ops false) Q σ := by
  refine AWp_hand hT [] o r e hr hg hog ?_
  rw [hg]; exact h
theorem AWp_hand1 (hT : TOk P T) {id : Nat} {ops : Array Oper} {Q : Exit → ASt → Prop} {σ : ASt} {o1 o : Oper} {r : List Oper} (e : ops.toList = o1 :: o :: r) (hr : regOk n ops.toList = true) (hg : guardsOf ops.toList = []) (hog : o.guard = none)
    (h : FOps P T ops.toList (guardsOf ops.toList) 0 [o1] σ.tm σ.h fun τ => ∀ (X : Nat → Prop) ι a w, St n X τ ι a w → ∃ e : Eff, OpOk P n X τ ι a w o (freshOf o) e.up e.val ∧ Hand P T ops.toList 1 o r τ (Q .normal) e) : AWp P n L (.region id ops false) Q σ :=
  AWp_hand hT [o1] o r e hr hg hog h
theorem AWp_hand2 (hT : TOk P T) {id : Nat} {ops : Array Oper} {Q : Exit → ASt → Prop} {σ : ASt} {o1 o2 o : Oper} {r : List Oper} (e : ops.toList = o1 :: o2 :: o :: r) (hr : regOk n ops.toList = true) (hg : guardsOf ops.toList = []) (hog : o.guard = none)
    (h : FOps P T ops.toList (guardsOf ops.toList) 0 [o1, o2] σ.tm σ.h fun τ => ∀ (X : Nat → Prop) ι a w, St n X τ ι a w → ∃ e : Eff, OpOk P n X τ ι a w o (freshOf o) e.up e.val ∧ Hand P T ops.toList 2 o r τ (Q .normal) e) : AWp P n L (.region id ops false) Q σ :=
  AWp_hand hT [o1, o2] o r e hr hg hog h
/-! #### A map opened and shut -/
theorem AWp_open {c : Code} {Q : Exit → ASt → Prop} {tm : Nat → AV} {h : AHeap} (t : Nat) (i : Id) {κ : MK} {m : List (List Int × Int)} (ht : tm t = .mp i) (hh : h i = some (.map (.assoc κ m)))
    (k : ∀ es clock, MOk κ m es clock → AWp P n L c Q ⟨tm, updH h i (some (.map (.exact es clock)))⟩) : AWp P n L c Q ⟨tm, h⟩ := by
  refine ⟨fun X ι a w s => ?_⟩
  have hv := s.tm t
  simp only [ht, V] at hv
  cases hl : ι i with
  | none => rw [hl] at hv; exact hv.elim
  | some l =>
    have hr := s.sim.rel i _ l hh hl
    rw [hl] at hv
    cases l with
    | nil => exact hv.elim
    | ghost => exact hv.elim
    | «at» b cc =>
      obtain ⟨es, clock, hb, hM⟩ := hr
      refine (k es clock hM).1 X ι a w ⟨⟨fun j => ?_, fun j blk l e1 e2 => ?_, s.sim.inj, s.sim.apart, s.sim.below⟩, s.defers, s.size, s.tm⟩
      · show _ = (updH h i (some (.map (.exact es clock))) j).isSome
        by_cases hj : j = i
        · subst hj; rw [hl, updH_same]; rfl
        · rw [updH_ne hj]; exact s.sim.dom j
      · replace e1 : updH h i (some (.map (.exact es clock))) j = some blk := e1
        by_cases hj : j = i
        · subst hj
          rw [updH_same] at e1; cases e1
          rw [hl] at e2; cases e2
          exact hb
        · rw [updH_ne hj] at e1; exact s.sim.rel j blk l e1 e2
theorem BLe.shut {κ : MK} {m : List (List Int × Int)} {es : Array MapEntry} {clock : Nat} (h : MOk κ m es clock) : BLe (.map (.exact es clock)) (.map (.assoc κ m)) := by
  intro w own ι l hr
  cases l with
  | nil => exact hr.elim
  | ghost => trivial
  | «at» b c => exact ⟨es, clock, hr, h⟩
/-! #### Going through -/
theorem New.iter (w : World) (m : Option Nat) (s : Nat) (seen : Array Nat) (c : Nat) : New w (w.alloc (.mapIter m s seen c)) :=
  ⟨rfl, rfl, rfl, by simp, fun k hk => Go.RowKit.Below.heap_alloc w _ k hk, fun b => by
    simp only [World.frozen?]
    rcases Nat.lt_trichotomy b.block w.heap.size with h | h | h
    · rw [Go.RowKit.Below.heap_alloc w _ _ h]
    · rw [h, heap_alloc_new, Array.getElem?_eq_none (Nat.le_refl _)]
    · rw [Array.getElem?_eq_none (by omega : w.heap.size ≤ b.block), Array.getElem?_eq_none (by simp; omega)]⟩
variable {σ : ASt} {ι : Places} {a : Act} {w : World}
theorem range_ok (hT : TOk P T) (s : St n X σ ι a w) {o : Oper} {t : Nat} {x : Operand} {sz b : Nat} {κ : MK} {kt et : Nat} {z : List AV} {id : Id} {es : Array MapEntry} {clock : Nat}
    (ho : o.op = .range t x) (hTt : T t = some ⟨sz, b, .map κ kt et, z⟩) (hx : σ.opv x = .mp id) (hh : σ.h id = some (.map (.exact es clock))) (hf : σ.h (freshOf o) = none) :
    OpOk P n X σ ι a w o (freshOf o) (.alloc (.map (.itr id clock #[] clock))) (.bp (freshOf o) 0) := by
  obtain ⟨ti, d, zv, hok⟩ := hT t _ hTt
  have hk := hok.kind
  cases d <;> simp only [TK.rel] at hk
  obtain ⟨rfl, rfl⟩ := hk
  obtain ⟨r, c, hl, hax, hm⟩ := mp_at s hx hh
  refine OpOk.alloc s hf 0 _ _ (.pointer (some ⟨w.heap.size, 0, none⟩)) (w.alloc (.mapIter (some r) clock #[] clock)) (New.iter w _ _ _ _) ?_ ?_ ?_
  · simp only [execOp, ho, hax]
    rw [Sem.run_bind, run_range_map w t _ _ r es clock hok.und hm]
    rfl
  · rintro ι' rfl _ hs
    exact ⟨r, c, hs _ _ hl, heap_alloc_new _ _⟩
  · rintro ι' rfl
    simp only [V, updP_same]
/-- A key, and its entry, as they read. -/
def keyAV (κ : MK) (k : List Int) : AV := match κ.agg with
  | true => .agg (k.map (AV.int κ.kk))
  | false => .int κ.kk (k.headD 0)
theorem Vs_ints {own : Nat → Prop} {k : IntKind} : ∀ {xs : List Int}, (∀ x ∈ xs, k.min ≤ x ∧ x ≤ k.max) → Vs w own (xs.map (AV.int k)) ι (xs.map (Value.int k))
  | [], _ => by simp only [List.map_nil, Vs]
  | x :: r, h => by
      simp only [List.map_cons, Vs, V]
      exact ⟨_, _, rfl, ⟨rfl, h x (by simp)⟩, Vs_ints (fun y hy => h y (by simp [hy]))⟩
theorem keyAV_V {own : Nat → Prop} {κ : MK} {k : List Int} (h1 : κ.agg = false → κ.n = 1) (h : KeyOk κ k) : V w own (keyAV κ k) ι (keyV κ k) := by
  unfold keyAV keyV
  cases ha : κ.agg with
  | true => simp only [V]; exact ⟨_, rfl, Vs_ints h.2⟩
  | false =>
    have hl := h.1
    rw [h1 ha] at hl
    match k, hl with
    | [x], _ => simp only [V, List.headD_cons]; exact ⟨trivial, h.2 x (by simp)⟩
theorem MOk.entry {κ : MK} {m : List (List Int × Int)} {es : Array MapEntry} {clock : Nat} (h : MOk κ m es clock) {e : MapEntry} (he : e ∈ es.toList) : ∃ k v, (k, v) ∈ m ∧ e.key = keyV κ k ∧ e.val = .int κ.vk v := by
  have : (e.key, e.val) ∈ es.toList.map (fun e => (e.key, e.val)) := List.mem_map.2 ⟨e, he, rfl⟩
  rw [h.kv] at this
  obtain ⟨⟨k, v⟩, h1, h2⟩ := List.mem_map.1 this
  have h3 := Prod.mk.inj h2
  exact ⟨k, v, h1, h3.1.symm, h3.2.symm⟩
theorem bp_at (s : St n X σ ι a w) {x : Operand} {id : Id} {b : MB} (hx : σ.opv x = .bp id 0) (hh : σ.h id = some (.map b)) : ∃ r c, ι id = some (.at r c) ∧ a.eval x = .pointer (some ⟨r, 0, none⟩) ∧ MBRel w ι r b := by
  have hv := s.opv x
  rw [hx] at hv
  simp only [V] at hv
  cases hl : ι id with
  | none => rw [hl] at hv; exact hv.elim
  | some l =>
    have hr := s.sim.rel id _ l hh hl
    rw [hl] at hv
    cases l with
    | nil => exact hv.elim
    | ghost => exact hv.elim
    | «at» r c => exact ⟨r, c, rfl, hv, hr⟩
theorem next_ok (hT : TOk P T) (s : St n X σ ι a w) {o : Oper} {x : Operand} {κ : MK} {t sz b kt et : Nat} {z : List AV} {id mid : Id} {m : List (List Int × Int)} {es : Array MapEntry} {clock : Nat} {seen : Array Nat}
    (ho : o.op = .next x false) (hTt : T t = some ⟨sz, b, .map κ kt et, z⟩) (hx : σ.opv x = .bp id 0) (hh : σ.h id = some (.map (.itr mid clock seen clock))) (hm : σ.h mid = some (.map (.exact es clock))) (hM : MOk κ m es clock) :
    ((leftOf es seen).size = 0 ∧ OpOk P n X σ ι a w o (freshOf o) .none (.tup [.bool false])) ∨
    ∃ e ∈ (leftOf es seen).toList, ∃ k v, (k, v) ∈ m ∧ e.key = keyV κ k ∧ e.val = .int κ.vk v ∧ OpOk P n X σ ι a w o (freshOf o) (.write id (.map (.itr mid clock (seen.push e.born) clock))) (.tup [.bool true, keyAV κ k, .int κ.vk v]) := by
  obtain ⟨ti, d, zv, hok⟩ := hT t _ hTt
  have hk := hok.kind
  cases d <;> simp only [TK.rel] at hk
  obtain ⟨rfl, rfl⟩ := hk
  have K := hok.keyed κ _ _ rfl
  obtain ⟨r, c, hl, hax, bm, c2, hml, hr⟩ := bp_at s hx hh
  have hb : w.heap[bm]? = some (.map es clock) := s.sim.rel mid _ _ hm hml
  rcases run_next_at (P := P) w o.type r bm clock clock seen es clock hr hb hM.clock (Nat.le_refl _) with ⟨h0, hrun⟩ | ⟨e, he, w1, hal, hrun⟩
  · refine .inl ⟨h0, OpOk.pure s (.tuple #[.bool false]) ?_ ?_⟩
    · simp only [execOp, ho, hax]
      rw [Sem.run_bind, hrun]; rfl
    · simp only [V, Vs]
      exact ⟨[.bool false], rfl, _, _, rfl, rfl, rfl⟩
  · have hem : e ∈ es.toList := by
      have := he; unfold leftOf at this; simp at this ⊢; exact this.1
    obtain ⟨k, v, h1, h2, h3⟩ := hM.entry hem
    refine .inr ⟨e, he, k, v, h1, h2, h3, ?_⟩
    have hr1 : w1.heap[r]? = some (.mapIter (some bm) clock seen clock) := by rcases hal with rfl | rfl <;> exact hr
    have hs := heap_set (o' := .mapIter (some bm) clock (seen.push e.born) clock) hr1
    have hw1 : w1.heap = w.heap ∧ w1.os = w.os ∧ w1.tape = w.tape ∧ w1.output = w.output := by rcases hal with rfl | rfl <;> exact ⟨rfl, rfl, rfl, rfl⟩
    have hset : (Go.ChangeMaps.setBlock w1 r (.mapIter (some bm) clock (seen.push e.born) clock)).heap = w1.heap.setIfInBounds r (.mapIter (some bm) clock (seen.push e.born) clock) := rfl
    have hfz : ∀ b, (Go.ChangeMaps.setBlock w1 r (.mapIter (some bm) clock (seen.push e.born) clock)).frozen? b = w.frozen? b := by
      intro b
      simp only [World.frozen?, hset]
      by_cases e' : b.block = r
      · rw [e', hs.1, hr]
      · rw [hs.2 _ e', hw1.1]
    obtain ⟨s', k'⟩ := s.sim.write (w' := Go.ChangeMaps.setBlock w1 r (.mapIter (some bm) clock (seen.push e.born) clock)) hl (.map (.itr mid clock (seen.push e.born) clock)) (by rw [hset]; simp [hw1.1]) (fun k hk => by rw [hset, hs.2 k hk, hw1.1])
      (fun _ => ⟨bm, c2, hml, by rw [hset]; exact hs.1⟩)
    refine ⟨.value (.tuple #[.bool true, e.key, e.val]), _, _, ι, ?_, .inl rfl, s', fun y u' hy => V_keep k' y u' (Sub.refl _) hy, ?_, ⟨⟨hw1.2.1, hw1.2.2.1, hw1.2.2.2, by rw [hset]; simp [hw1.1], fun b' _ hno => by rw [hset, hs.2 b' (fun e' => hno (e' ▸ ⟨id, c, hl⟩)), hw1.1], hfz⟩, fun _ h => .inl h⟩⟩
    · simp only [execOp, ho, hax]
      rw [Sem.run_bind, hrun]; rfl
    · simp only [V, Vs]
      have hok2 := hM.ok _ h1
      exact ⟨[.bool true, e.key, e.val], rfl, _, _, rfl, rfl, _, _, rfl, h2 ▸ keyAV_V K.one hok2.1, _, _, rfl, ⟨h3, hok2.2⟩, rfl⟩
theorem entry_ok (hT : TOk P T) (s : St n X σ ι a w) {o : Oper} {x : Operand} {κ : MK} {t sz b kt et : Nat} {z : List AV} {id mid : Id} {m : List (List Int × Int)} {es : Array MapEntry} {clock : Nat} {seen : Array Nat} {e : MapEntry} {k : List Int} {v : Int}
    (ho : o.op = .entry x) (hTt : T t = some ⟨sz, b, .map κ kt et, z⟩) (hx : σ.opv x = .bp id 0) (hh : σ.h id = some (.map (.itr mid clock (seen.push e.born) clock))) (hm : σ.h mid = some (.map (.exact es clock))) (hM : MOk κ m es clock)
    (he : e ∈ es.toList) (hp : (k, v) ∈ m) (hk : e.key = keyV κ k) (hv : e.val = .int κ.vk v) : OpOk P n X σ ι a w o (freshOf o) .none (.tup [keyAV κ k, .int κ.vk v]) := by
  obtain ⟨ti, d, zv, hok⟩ := hT t _ hTt
  have hk' := hok.kind
  cases d <;> simp only [TK.rel] at hk'
  obtain ⟨rfl, rfl⟩ := hk'
  have K := hok.keyed κ _ _ rfl
  obtain ⟨r, c, hl, hax, bm, c2, hml, hr⟩ := bp_at s hx hh
  have hb : w.heap[bm]? = some (.map es clock) := s.sim.rel mid _ _ hm hml
  have hrun := run_entry_at (P := P) w r bm clock seen es clock e hr hb he hM.born
  refine OpOk.pure s (.tuple #[e.key, e.val]) ?_ ?_
  · simp only [execOp, ho, hax]
    rw [Sem.run_bind, hrun]; rfl
  · simp only [V, Vs]
    have hok2 := hM.ok _ hp
    exact ⟨[e.key, e.val], rfl, _, _, rfl, hk ▸ keyAV_V K.one hok2.1, _, _, rfl, ⟨hv, hok2.2⟩, rfl⟩
theorem delx_ok (hT : TOk P T) (s : St n X σ ι a w) {o : Oper} {c_1 : Call} {t : Nat} {x ix : Operand} {κ : MK} {sz b kt et : Nat} {z : List AV} {id : Id} {m : List (List Int × Int)} {es : Array MapEntry} {clock : Nat} {key : List Int}
    (ho : o.op = .call c_1) (hc : c_1.callee = .builtin .delete) (ha : c_1.args = #[x, ix]) (ht : c_1.argTypes[0]? = some t) (hTt : T t = some ⟨sz, b, .map κ kt et, z⟩) (hx : σ.opv x = .mp id) (hh : σ.h id = some (.map (.exact es clock)))
    (hkey : keyOfAV κ (σ.opv ix) = some key) (hM : MOk κ m es clock) :
    ∃ es', MOk κ (mdel m key) es' clock ∧ es'.toList.Sublist es.toList ∧ OpOk P n X σ ι a w o (freshOf o) (.write id (.map (.exact es' clock))) .any := by
  obtain ⟨ti, d, zv, hok⟩ := hT t _ hTt
  have hk := hok.kind
  cases d <;> simp only [TK.rel] at hk
  obtain ⟨rfl, rfl⟩ := hk
  have K := hok.keyed κ _ _ rfl
  have run : ∀ v w', (Builtin.delete_ c_1.argTypes o.type #[a.eval x, a.eval ix]).run P w = .ok v w' → (execOp a.eval o).run P w = .ok (.value v) w' := by
    intro v w' h
    simp only [execOp, ho, resolve, hc, ha, Sem.run_bind, Sem.run_pure, Result.andThen_ok, invoke]
    simp [builtin, h]
  obtain ⟨r, c, hl, hax, hb⟩ := mp_at s hx hh
  obtain ⟨hai, hko⟩ := keyOfAV_ok hkey (s.opv ix)
  obtain ⟨l, hl2⟩ := K.reads key hko
  have hchk := K.keyed.check w es.isEmpty hl2
  have done : ∀ es' : Array MapEntry, (Builtin.delete_ c_1.argTypes o.type #[a.eval x, a.eval ix]).run P w = .ok (.tuple #[]) { w with heap := w.heap.setIfInBounds r (.map es' clock) } → OpOk P n X σ ι a w o (freshOf o) (.write id (.map (.exact es' clock))) .any := by
    intro es' hrun
    have hs := heap_set (o' := .map es' clock) hb
    have hfz : ∀ b, World.frozen? { w with heap := w.heap.setIfInBounds r (.map es' clock) } b = w.frozen? b := by
      intro b
      simp only [World.frozen?]
      by_cases e : b.block = r
      · rw [e, hs.1, hb]
      · rw [hs.2 _ e]
    obtain ⟨s', k⟩ := s.sim.write (w' := { w with heap := w.heap.setIfInBounds r (.map es' clock) }) hl (.map (.exact es' clock)) (by simp) (fun k hk => hs.2 k hk) (fun _ => hs.1)
    exact ⟨_, _, _, ι, run _ _ hrun, .inl rfl, s', fun y u' hy => V_keep k y u' (Sub.refl _) hy, by simp only [V], ⟨⟨rfl, rfl, rfl, by simp, fun b' _ hno => hs.2 b' (fun e' => hno (e' ▸ ⟨id, c, hl⟩)), hfz⟩, fun _ h => .inl h⟩⟩
  rcases K.keyed.find w hl2 es.toList (hM.keys K) with ⟨h1, h2⟩ | ⟨j, e0, h1, h2, h3⟩
  · refine ⟨es, by rw [mdel_none (hM.none h2)]; exact hM, List.Sublist.refl _, done es ?_⟩
    simp [Builtin.delete_, ht, hax, hai, run_underlying hok.und, run_getObj_map hb, hchk, h1, run_setObj_map _ hb, Result.andThen]
  · obtain ⟨y0, h4, h5⟩ := hM.at K.one hko h2 h3
    refine ⟨es.eraseIdxIfInBounds j, by rw [mdel_at hM.nodup h4]; exact hM.erase j, ?_, done _ ?_⟩
    · unfold Array.eraseIdxIfInBounds
      split
      · simp only [Array.toList_eraseIdx]; exact List.eraseIdx_sublist _ _
      · exact List.Sublist.refl _
    · simp [Builtin.delete_, ht, hax, hai, run_underlying hok.und, run_getObj_map hb, hchk, h1, run_setObj_map _ hb, Result.andThen]
theorem AWp_next (hT : TOk P T) (t : Nat) (id mid : Id) (es : Array MapEntry) (clock : Nat) (seen : Array Nat) (m : List (List Int × Int)) (κ : MK) {rid : Nat} {ops : Array Oper} {Q : Exit → ASt → Prop} {o : Oper} {r : List Oper} {x : Operand} {sz b kt et : Nat} {z : List AV}
    (e : ops.toList = o :: r) (hr : regOk n ops.toList = true) (hg : guardsOf ops.toList = []) (hog : o.guard = none) (ho : o.op = .next x false) (hTt : T t = some ⟨sz, b, .map κ kt et, z⟩) (hx : σ.opv x = .bp id 0) (hh : σ.h id = some (.map (.itr mid clock seen clock))) (hm : σ.h mid = some (.map (.exact es clock))) (hM : MOk κ m es clock)
    (h0 : (leftOf es seen).size = 0 → Hand P T ops.toList 0 o r σ (Q .normal) ⟨.tup [.bool false], .none, []⟩)
    (h1 : ∀ e ∈ (leftOf es seen).toList, e ∈ es.toList → ∀ k v, (k, v) ∈ m → e.key = keyV κ k → e.val = .int κ.vk v → Hand P T ops.toList 0 o r σ (Q .normal) ⟨.tup [.bool true, keyAV κ k, .int κ.vk v], .write id (.map (.itr mid clock (seen.push e.born) clock)), []⟩) :
    AWp P n L (.region rid ops false) Q σ := by
  refine AWp_hand0 hT e hr hg hog (fun X ι a w s => ?_)
  rcases next_ok hT s ho hTt hx hh hm hM with ⟨h2, hop⟩ | ⟨e, he, k, v, h2, h3, h4, hop⟩
  · exact ⟨_, hop, h0 h2⟩
  · exact ⟨_, hop, h1 e he (mem_left he).1 k v h2 h3 h4⟩
theorem AWp_entry (hT : TOk P T) (t : Nat) (id mid : Id) (es : Array MapEntry) (clock : Nat) (seen : Array Nat) (m : List (List Int × Int)) (κ : MK) {rid : Nat} {ops : Array Oper} {Q : Exit → ASt → Prop} {o : Oper} {r : List Oper} {x : Operand} {sz b kt et : Nat} {z : List AV} {ent : MapEntry} {k : List Int} {v : Int}
    (e : ops.toList = o :: r) (hr : regOk n ops.toList = true) (hg : guardsOf ops.toList = []) (hog : o.guard = none) (ho : o.op = .entry x) (hTt : T t = some ⟨sz, b, .map κ kt et, z⟩) (hx : σ.opv x = .bp id 0) (hh : σ.h id = some (.map (.itr mid clock (seen.push ent.born) clock))) (hm : σ.h mid = some (.map (.exact es clock))) (hM : MOk κ m es clock)
    (he : ent ∈ es.toList) (hp : (k, v) ∈ m) (hk : ent.key = keyV κ k) (hv : ent.val = .int κ.vk v)
    (h : Hand P T ops.toList 0 o r σ (Q .normal) ⟨.tup [keyAV κ k, .int κ.vk v], .none, []⟩) :
    AWp P n L (.region rid ops false) Q σ :=
  AWp_hand0 hT e hr hg hog (fun X ι a w s => ⟨_, entry_ok hT s ho hTt hx hh hm hM he hp hk hv, h⟩)
theorem del_ex (hT : TOk P T) (s : St n X σ ι a w) (t : Nat) (id : Id) (es : Array MapEntry) (clock : Nat) (m : List (List Int × Int)) (κ : MK) (key : List Int) {o : Oper} {c_1 : Call} {x ix : Operand} {sz b kt et : Nat} {z : List AV} {j : Nat} {r : List Oper} {Q : ASt → Prop}
    (ho : o.op = .call c_1) (hc : c_1.callee = .builtin .delete) (ha : c_1.args = #[x, ix]) (ht : c_1.argTypes[0]? = some t) (hTt : T t = some ⟨sz, b, .map κ kt et, z⟩) (hx : σ.opv x = .mp id) (hh : σ.h id = some (.map (.exact es clock)))
    (hkey : keyOfAV κ (σ.opv ix) = some key) (hM : MOk κ m es clock)
    (h : ∀ es' : Array MapEntry, MOk κ (mdel m key) es' clock → es'.toList.Sublist es.toList → Hand P T all j o r σ Q ⟨.any, .write id (.map (.exact es' clock)), []⟩) :
    ∃ e : Eff, OpOk P n X σ ι a w o (freshOf o) e.up e.val ∧ Hand P T all j o r σ Q e := by
  obtain ⟨es', h1, h2, h3⟩ := delx_ok hT s ho hc ha ht hTt hx hh hkey hM
  exact ⟨_, h3, h es' h1 h2⟩
end
end Dv
