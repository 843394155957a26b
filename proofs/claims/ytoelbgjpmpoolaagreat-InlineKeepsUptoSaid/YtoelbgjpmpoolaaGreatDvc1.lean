/- Theory: functions of the program walked on abstract states. It says nothing of a program. -/
import Derived.Orders
import Derived.Below
import Derived.RowKit3
import Derived.Laws.CopyRow
import Derived.WalkKit
import Derived.WalkSpells
import Derived.Maps.Keyed
import Derived.Laws.IdiomRangeMap
import Derived.Maps.RangeRun
import Derived.DeepKeys3
import Derived.ChangeKeysEq
import Derived.Laws.StructEq
set_option linter.unusedVariables false
set_option linter.unusedSimpArgs false
set_option linter.unnecessarySimpa false
namespace Dv
open Go
abbrev Id := Nat × Nat × Nat
structure MK where
 agg : Bool
 n : Nat
 kk : IntKind
 vk : IntKind
def keyV (κ : MK) (k : List Int) : Value := match κ.agg with
 | true => .agg (k.map (Value.int κ.kk)).toArray
 | false => .int κ.kk (k.headD 0)
def KeyOk (κ : MK) (k : List Int) : Prop := k.length = κ.n ∧ ∀ x ∈ k, κ.kk.min ≤ x ∧ x ≤ κ.kk.max
structure MOk (κ : MK) (m : List (List Int × Int)) (es : Array MapEntry) (clock : Nat) : Prop where
 kv : es.toList.map (fun e => (e.key, e.val)) = m.map (fun p => (keyV κ p.1, Value.int κ.vk p.2))
 ok : ∀ p ∈ m, KeyOk κ p.1 ∧ κ.vk.min ≤ p.2 ∧ p.2 ≤ κ.vk.max
 nodup : (m.map (·.1)).Nodup
 born : (es.toList.map (·.born)).Nodup
 clock : ∀ e ∈ es.toList, e.born < clock
inductive MB where
 | assoc (κ : MK) (m : List (List Int × Int))
 | exact (es : Array MapEntry) (clock : Nat)
 | itr (mid : Id) (since : Nat) (seen : Array Nat) (c0 : Nat)
 | any
inductive AV where
 | any
 | int (k : IntKind) (n : Int)
 | bool (b : Bool)
 | str (s : ByteArray)
 | agg (cs : List AV)
 | tup (cs : List AV)
 | sl (sz n : Nat) (f : Nat → List AV)
 | nsl
 | ip (cs : List AV)
 | np
 | rs (i : Id) (sz st len : Nat)
 | rp (i : Id) (sz st j : Nat)
 | bp (i : Id) (j : Nat)
 | mp (i : Id)
 | fn (f : FuncId) (cap : List AV)
 | ifc (t : TypeId) (v : AV)
 | nif
 | nfn
 | guard (j : Nat) (b : Bool) (v : AV)
 | is (v : Value)
inductive Loc where
 | nil
 | ghost
 | at (b c : Nat)
abbrev Zai := Id → Option Loc
def ι0 : Zai := fun _ => none
def mL : Nat := 4294967296
mutual
def V (w : World) (own : Nat → Prop) : AV → Zai → Value → Prop
 | .any, _, _ => True
 | .int k n, _, v => v = .int k n ∧ k.min ≤ n ∧ n ≤ k.max
 | .bool b, _, v => v = .bool b
 | .str s, _, v => v = .string s ∧ s.size ≤ mL
 | .agg cs, ι, v => ∃ a : List Value, v = .agg a.toArray ∧ Vs w own cs ι a
 | .tup cs, ι, v => ∃ a : List Value, v = .tuple a.toArray ∧ Vs w own cs ι a
 | .sl sz n f, _, v => ∃ p c, v = .slice p n c ∧ n ≤ c ∧ n ≤ mL ∧
   (n = 0 ∨ ∃ b o, p = some ⟨b, o, none⟩ ∧ b < w.heap.size ∧ ¬ own b ∧ ∀ i, i < n → (f i).length = sz ∧ Vc w own (f i) ι0 b (o + i * sz))
 | .nsl, _, v => v = .slice none 0 0
 | .ip cs, _, v => ∃ b o, v = .pointer (some ⟨b, o, none⟩) ∧ b < w.heap.size ∧ ¬ own b ∧ Vc w own cs ι0 b o
 | .np, _, v => v = .pointer none
 | .rs i sz st len, ι, v => match ι i with
   | some .nil => v = .slice none 0 0 ∧ st = 0 ∧ len = 0
   | some (.at b c) => ∃ p, v = .slice (some p) len (c - st) ∧ st + len ≤ c ∧ len ≤ mL ∧ (st = c ∨ p = ⟨b, st * sz, none⟩)
   | some .ghost => False
   | none => False
 | .rp i sz st j, ι, v => match ι i with
   | some (.at b _) => v = .pointer (some ⟨b, st * sz + j, none⟩)
   | _ => False
 | .bp i j, ι, v => match ι i with
   | some (.at b _) => v = .pointer (some ⟨b, j, none⟩)
   | _ => False
 | .mp i, ι, v => match ι i with
   | some (.at b _) => v = .map (some b)
   | _ => False
 | .fn f cap, ι, v => ∃ a : List Value, v = .func (.func f) #[] a.toArray ∧ Vs w own cap ι a
 | .ifc t x, ι, v => ∃ u, v = .iface t u ∧ V w own x ι u
 | .nif, _, v => v = .nilIface
 | .nfn, _, v => v = .nilFunc
 | .is u, _, v => v = u ∧ v.oneCell' = true
 | .guard _ _ _, _, _ => False
def Vs (w : World) (own : Nat → Prop) : List AV → Zai → List Value → Prop
 | [], _, vs => vs = []
 | c :: cs, ι, vs => ∃ v r, vs = v :: r ∧ V w own c ι v ∧ Vs w own cs ι r
def Vc (w : World) (own : Nat → Prop) : List AV → Zai → Nat → Nat → Prop
 | [], _, _, _ => True
 | c :: cs, ι, b, o => (∃ v, w.cell? ⟨b, o, none⟩ = some v ∧ v.oneCell' = true ∧ V w own c ι v) ∧ Vc w own cs ι b (o + 1)
end
structure Keep (w w' : World) (own own' : Nat → Prop) : Prop where
 size : w.heap.size ≤ w'.heap.size
 block : ∀ b, b < w.heap.size → ¬ own b → w'.heap[b]? = w.heap[b]?
 own : ∀ b, b < w.heap.size → own' b → own b
theorem cell_same {w w' : World} {b : Nat} (h : w'.heap[b]? = w.heap[b]?) (o : Nat) : w'.cell? ⟨b, o, none⟩ = w.cell? ⟨b, o, none⟩ := by
 simp only [World.cell?, h]
def Sub (ι ι' : Zai) : Prop := ∀ i l, ι i = some l → ι' i = some l
theorem Sub.refl (ι : Zai) : Sub ι ι := fun _ _ h => h
mutual
theorem Zbz {w w' : World} {own own' : Nat → Prop} (k : Keep w w' own own') : ∀ (x : AV) {ι ι' : Zai} (v : Value), Sub ι ι' → V w own x ι v → V w' own' x ι' v
 | .any, _, _, _, _, _ => by simp only [V]
 | .int _ _, _, _, _, _, h => by simp only [V] at h ⊢; exact h
 | .bool _, _, _, _, _, h => by simp only [V] at h ⊢; exact h
 | .str _, _, _, _, _, h => by simp only [V] at h ⊢; exact h
 | .agg cs, _, _, _, hs, h => by
   simp only [V] at h ⊢; obtain ⟨a, e, h⟩ := h; exact ⟨a, e, Zdr k cs a hs h⟩
 | .tup cs, _, _, _, hs, h => by
   simp only [V] at h ⊢; obtain ⟨a, e, h⟩ := h; exact ⟨a, e, Zdr k cs a hs h⟩
 | .sl sz n f, _, _, _, _, h => by
   simp only [V] at h ⊢
   obtain ⟨p, c, e, h1, h3, h4⟩ := h
   refine ⟨p, c, e, h1, h3, h4.imp id ?_⟩
   rintro ⟨b, o, e1, hb, ho, hm⟩
   exact ⟨b, o, e1, Nat.lt_of_lt_of_le hb k.size, fun ho' => ho (k.own b hb ho'), fun i hi => ⟨(hm i hi).1, Zc8 k (f i) b _ (k.block b hb ho) (Sub.refl _) (hm i hi).2⟩⟩
 | .nsl, _, _, _, _, h => by simp only [V] at h ⊢; exact h
 | .ip cs, _, _, _, _, h => by
   simp only [V] at h ⊢
   obtain ⟨b, o, e1, hb, ho, hm⟩ := h
   exact ⟨b, o, e1, Nat.lt_of_lt_of_le hb k.size, fun ho' => ho (k.own b hb ho'), Zc8 k cs b o (k.block b hb ho) (Sub.refl _) hm⟩
 | .np, _, _, _, _, h => by simp only [V] at h ⊢; exact h
 | .rs i sz st len, ι, ι', _, hs, h => by
   simp only [V] at h ⊢
   cases e : ι i with
   | none => simp [e] at h
   | some l => rw [hs i l e]; simpa [e] using h
 | .rp i sz st j, ι, ι', _, hs, h => by
   simp only [V] at h ⊢
   cases e : ι i with
   | none => simp [e] at h
   | some l => rw [hs i l e]; simpa [e] using h
 | .bp i j, ι, ι', _, hs, h => by
   simp only [V] at h ⊢
   cases e : ι i with
   | none => simp [e] at h
   | some l => rw [hs i l e]; simpa [e] using h
 | .mp i, ι, ι', _, hs, h => by
   simp only [V] at h ⊢
   cases e : ι i with
   | none => simp [e] at h
   | some l => rw [hs i l e]; simpa [e] using h
 | .fn f cs, _, _, _, hs, h => by
   simp only [V] at h ⊢; obtain ⟨a, e, h⟩ := h; exact ⟨a, e, Zdr k cs a hs h⟩
 | .ifc t x, _, _, _, hs, h => by
   simp only [V] at h ⊢; obtain ⟨a, e, h⟩ := h; exact ⟨a, e, Zbz k x a hs h⟩
 | .nif, _, _, _, _, h => by simp only [V] at h ⊢; exact h
 | .nfn, _, _, _, _, h => by simp only [V] at h ⊢; exact h
 | .is _, _, _, _, _, h => by simp only [V] at h ⊢; exact h
 | .guard _ _ _, _, _, _, _, h => by simp only [V] at h
theorem Zdr {w w' : World} {own own' : Nat → Prop} (k : Keep w w' own own') : ∀ (xs : List AV) {ι ι' : Zai} (vs : List Value), Sub ι ι' → Vs w own xs ι vs → Vs w' own' xs ι' vs
 | [], _, _, _, _, h => by simp only [Vs] at h ⊢; exact h
 | c :: cs, _, _, _, hs, h => by
   simp only [Vs] at h ⊢
   obtain ⟨v, r, e, h1, h2⟩ := h
   exact ⟨v, r, e, Zbz k c v hs h1, Zdr k cs r hs h2⟩
theorem Zc8 {w w' : World} {own own' : Nat → Prop} (k : Keep w w' own own') : ∀ (xs : List AV) {ι ι' : Zai} (b o : Nat), w'.heap[b]? = w.heap[b]? → Sub ι ι' → Vc w own xs ι b o → Vc w' own' xs ι' b o
 | [], _, _, _, _, _, _, _ => by simp only [Vc]
 | c :: cs, _, _, b, o, hb, hs, h => by
   simp only [Vc] at h ⊢
   obtain ⟨⟨v, e, h0, h1⟩, h2⟩ := h
   exact ⟨⟨v, by rw [cell_same hb]; exact e, h0, Zbz k c v hs h1⟩, Zc8 k cs b (o + 1) hb hs h2⟩
end
mutual
/-- The references of a value renamed; those of blocks without a new name are forgotten. -/
def Zbj (ρ : Id → Option Id) : AV → AV
 | .rs i sz st len => match ρ i with | some j => .rs j sz st len | none => .any
 | .rp i sz st k => match ρ i with | some j => .rp j sz st k | none => .any
 | .bp i k => match ρ i with | some j => .bp j k | none => .any
 | .mp i => match ρ i with | some j => .mp j | none => .any
 | .agg cs => .agg (Zb4 ρ cs)
 | .tup cs => .tup (Zb4 ρ cs)
 | .fn f cs => .fn f (Zb4 ρ cs)
 | .ifc t x => .ifc t (Zbj ρ x)
 | .any => .any
 | .int k n => .int k n
 | .bool b => .bool b
 | .str s => .str s
 | .sl sz n f => .sl sz n f
 | .nsl => .nsl
 | .ip cs => .ip cs
 | .np => .np
 | .nif => .nif
 | .nfn => .nfn
 | .is v => .is v
 | .guard j b x => .guard j b x
def Zb4 (ρ : Id → Option Id) : List AV → List AV
 | [] => []
 | c :: cs => Zbj ρ c :: Zb4 ρ cs
end
theorem Zfm (ρ : Id → Option Id) : ∀ cs, (Zb4 ρ cs).length = cs.length
 | [] => rfl
 | _ :: cs => by simp [Zb4, Zfm ρ cs]
def MapOk (ρ : Id → Option Id) (ι ι' : Zai) : Prop := ∀ i j, ρ i = some j → ∀ l, l ≠ .ghost → ι i = some l → ι' j = some l
mutual
theorem V_mapG {w : World} {own : Nat → Prop} {ι ι' : Zai} {ρ : Id → Option Id} (hρ : MapOk ρ ι ι') : ∀ (x : AV) (v : Value), V w own x ι v → V w own (Zbj ρ x) ι' v
 | .any, _, _ => by simp only [Zbj, V]
 | .int _ _, _, h => by simp only [Zbj, V] at h ⊢; exact h
 | .bool _, _, h => by simp only [Zbj, V] at h ⊢; exact h
 | .str _, _, h => by simp only [Zbj, V] at h ⊢; exact h
 | .agg cs, _, h => by
   simp only [Zbj, V] at h ⊢; obtain ⟨a, e, h⟩ := h; exact ⟨a, e, Vs_mapG hρ cs a h⟩
 | .tup cs, _, h => by
   simp only [Zbj, V] at h ⊢; obtain ⟨a, e, h⟩ := h; exact ⟨a, e, Vs_mapG hρ cs a h⟩
 | .sl _ _ _, _, h => by simp only [Zbj, V] at h ⊢; exact h
 | .nsl, _, h => by simp only [Zbj, V] at h ⊢; exact h
 | .ip _, _, h => by simp only [Zbj, V] at h ⊢; exact h
 | .np, _, h => by simp only [Zbj, V] at h ⊢; exact h
 | .rs i sz st len, _, h => by
   simp only [Zbj]
   cases e : ρ i with
   | none => simp only [V]
   | some j =>
    simp only [V] at h ⊢
    cases hl : ι i with
    | none => rw [hl] at h; exact h.elim
    | some l =>
     cases l with
     | ghost => rw [hl] at h; exact h.elim
     | nil => rw [hl] at h; rw [hρ i j e _ (by simp) hl]; exact h
     | «at» b c => rw [hl] at h; rw [hρ i j e _ (by simp) hl]; exact h
 | .rp i sz st k, _, h => by
   simp only [Zbj]
   cases e : ρ i with
   | none => simp only [V]
   | some j =>
    simp only [V] at h ⊢
    cases hl : ι i with
    | none => rw [hl] at h; exact h.elim
    | some l =>
     cases l with
     | ghost => rw [hl] at h; exact h.elim
     | nil => rw [hl] at h; rw [hρ i j e _ (by simp) hl]; exact h
     | «at» b c => rw [hl] at h; rw [hρ i j e _ (by simp) hl]; exact h
 | .bp i k, _, h => by
   simp only [Zbj]
   cases e : ρ i with
   | none => simp only [V]
   | some j =>
    simp only [V] at h ⊢
    cases hl : ι i with
    | none => rw [hl] at h; exact h.elim
    | some l =>
     cases l with
     | ghost => rw [hl] at h; exact h.elim
     | nil => rw [hl] at h; rw [hρ i j e _ (by simp) hl]; exact h
     | «at» b c => rw [hl] at h; rw [hρ i j e _ (by simp) hl]; exact h
 | .mp i, _, h => by
   simp only [Zbj]
   cases e : ρ i with
   | none => simp only [V]
   | some j =>
    simp only [V] at h ⊢
    cases hl : ι i with
    | none => rw [hl] at h; exact h.elim
    | some l =>
     cases l with
     | ghost => rw [hl] at h; exact h.elim
     | nil => rw [hl] at h; rw [hρ i j e _ (by simp) hl]; exact h
     | «at» b c => rw [hl] at h; rw [hρ i j e _ (by simp) hl]; exact h
 | .fn f cs, _, h => by
   simp only [Zbj, V] at h ⊢; obtain ⟨a, e, h⟩ := h; exact ⟨a, e, Vs_mapG hρ cs a h⟩
 | .ifc t x, _, h => by
   simp only [Zbj, V] at h ⊢; obtain ⟨a, e, h⟩ := h; exact ⟨a, e, V_mapG hρ x a h⟩
 | .nif, _, h => by simp only [Zbj, V] at h ⊢; exact h
 | .nfn, _, h => by simp only [Zbj, V] at h ⊢; exact h
 | .is _, _, h => by simp only [Zbj, V] at h ⊢; exact h
 | .guard _ _ _, _, h => by simp only [V] at h
theorem Vs_mapG {w : World} {own : Nat → Prop} {ι ι' : Zai} {ρ : Id → Option Id} (hρ : MapOk ρ ι ι') : ∀ (xs : List AV) (vs : List Value), Vs w own xs ι vs → Vs w own (Zb4 ρ xs) ι' vs
 | [], _, h => by simp only [Zb4, Vs] at h ⊢; exact h
 | c :: cs, _, h => by
   simp only [Zb4, Vs] at h ⊢
   obtain ⟨v, r, e, h1, h2⟩ := h
   exact ⟨v, r, e, V_mapG hρ c v h1, Vs_mapG hρ cs r h2⟩
end
theorem Vc_mapG {w : World} {own : Nat → Prop} {ι ι' : Zai} {ρ : Id → Option Id} (hρ : MapOk ρ ι ι') : ∀ (xs : List AV) (b o : Nat), Vc w own xs ι b o → Vc w own (Zb4 ρ xs) ι' b o
 | [], _, _, _ => by simp only [Zb4, Vc]
 | c :: cs, b, o, h => by
   simp only [Zb4, Vc] at h ⊢
   obtain ⟨⟨v, e, h0, h1⟩, h2⟩ := h
   exact ⟨⟨v, e, h0, V_mapG hρ c v h1⟩, Vc_mapG hρ cs b (o + 1) h2⟩
theorem MapOk.of {ρ : Id → Option Id} {ι ι' : Zai} (hρ : ∀ i j, ρ i = some j → ι' j = ι i) : MapOk ρ ι ι' := fun i j e l _ h => by rw [hρ i j e]; exact h
theorem V_map {w : World} {own : Nat → Prop} {ι ι' : Zai} {ρ : Id → Option Id} (hρ : ∀ i j, ρ i = some j → ι' j = ι i) (x : AV) (v : Value) (h : V w own x ι v) : V w own (Zbj ρ x) ι' v := V_mapG (.of hρ) x v h
theorem Vs_map {w : World} {own : Nat → Prop} {ι ι' : Zai} {ρ : Id → Option Id} (hρ : ∀ i j, ρ i = some j → ι' j = ι i) (xs : List AV) (vs : List Value) (h : Vs w own xs ι vs) : Vs w own (Zb4 ρ xs) ι' vs := Vs_mapG (.of hρ) xs vs h
inductive Zau where
 | row (imm : Bool) (sz n : Nat) (f : Nat → List AV)
 | map (b : MB)
abbrev Zaq := Id → Option Zau
def idEq (i j : Id) : Bool := Nat.beq i.1 j.1 && (Nat.beq i.2.1 j.2.1 && Nat.beq i.2.2 j.2.2)
theorem Zbe {i j : Id} : idEq i j = true ↔ i = j := by
 obtain ⟨a, b, c⟩ := i; obtain ⟨d, e, f⟩ := j
 simp [idEq]
theorem Zbq {i j : Id} : idEq i j = false ↔ i ≠ j := by
 cases h : idEq i j with
 | true => simp [Zbe.1 h]
 | false => simp; intro e; rw [Zbe.2 e] at h; cases h
def updH (h : Zaq) (i : Id) (b : Option Zau) : Zaq := fun j => bif idEq j i then b else h j
theorem Zbw (h : Zaq) (i : Id) (b : Option Zau) : updH h i b i = b := by simp [updH, Zbe.2 rfl]
theorem Zcv {h : Zaq} {i j : Id} {b : Option Zau} (e : j ≠ i) : updH h i b j = h j := by simp [updH, Zbq.2 e]
def updP (ι : Zai) (i : Id) (l : Option Loc) : Zai := fun j => bif idEq j i then l else ι j
theorem Zav (ι : Zai) (i : Id) (l : Option Loc) : updP ι i l i = l := by simp [updP, Zbe.2 rfl]
theorem Za8 {ι : Zai} {i j : Id} {l : Option Loc} (e : j ≠ i) : updP ι i l j = ι j := by simp [updP, Zbq.2 e]
def Zeq (w : World) (ι : Zai) (b : Nat) : MB → Prop
 | .assoc κ m => ∃ es clock, w.heap[b]? = some (.map es clock) ∧ MOk κ m es clock
 | .exact es clock => w.heap[b]? = some (.map es clock)
 | .itr mid since seen c0 => ∃ bm c, ι mid = some (.at bm c) ∧ w.heap[b]? = some (.mapIter (some bm) since seen c0)
 | .any => ∃ bm since seen c0, w.heap[b]? = some (.mapIter bm since seen c0)
theorem MBRel_keep {w w' : World} {ι ι' : Zai} {b : Nat} (hs : Sub ι ι') (e : w'.heap[b]? = w.heap[b]?) : ∀ {m : MB}, Zeq w ι b m → Zeq w' ι' b m
 | .assoc _ _, h => by simp only [Zeq] at h ⊢; rw [e]; exact h
 | .exact _ _, h => by simp only [Zeq] at h ⊢; rw [e]; exact h
 | .itr _ _ _ _, h => by
   simp only [Zeq] at h ⊢; rw [e]
   obtain ⟨bm, c, h1, h2⟩ := h
   exact ⟨bm, c, hs _ _ h1, h2⟩
 | .any, h => by simp only [Zeq] at h ⊢; rw [e]; exact h
theorem MBRel_some {w : World} {ι : Zai} {b : Nat} : ∀ {m : MB}, Zeq w ι b m → (w.heap[b]?).isSome = true
 | .assoc _ _, h => by simp only [Zeq] at h; obtain ⟨es, c, e, _⟩ := h; rw [e]; rfl
 | .exact _ _, h => by simp only [Zeq] at h; rw [h]; rfl
 | .itr _ _ _ _, h => by simp only [Zeq] at h; obtain ⟨_, _, _, e⟩ := h; rw [e]; rfl
 | .any, h => by simp only [Zeq] at h; obtain ⟨_, _, _, _, e⟩ := h; rw [e]; rfl
def BRel (w : World) (own : Nat → Prop) (ι : Zai) : Zau → Loc → Prop
 | .row imm sz n f, .at b c => ∃ arr T, w.heap[b]? = some (.cells arr T (0, 0)) ∧ n ≤ c ∧ arr.size = c * sz ∧
   ∀ i, i < n → (f i).length = sz ∧ Vc w own (f i) (bif imm then ι0 else ι) b (i * sz)
 | .row _ _ n _, .nil => n = 0
 | .map m, .at b _ => Zeq w ι b m
 | .map _, .nil => False
 | _, .ghost => True
def Mine (ι : Zai) (b : Nat) : Prop := ∃ i c, ι i = some (.at b c)
def Own (X : Nat → Prop) (ι : Zai) (b : Nat) : Prop := X b ∨ Mine ι b
structure Sim (X : Nat → Prop) (h : Zaq) (ι : Zai) (w : World) : Prop where
 dom : ∀ i, (ι i).isSome = (h i).isSome
 rel : ∀ i blk l, h i = some blk → ι i = some l → BRel w (Own X ι) ι blk l
 inj : ∀ i j b c d, ι i = some (.at b c) → ι j = some (.at b d) → i = j
 apart : ∀ i b c, ι i = some (.at b c) → ¬ X b
 below : ∀ b, X b → b < w.heap.size
theorem Sim.find {X : Nat → Prop} {h : Zaq} {ι : Zai} {w : World} (s : Sim X h ι w) {i : Id} {blk : Zau} (e : h i = some blk) : ∃ l, ι i = some l ∧ BRel w (Own X ι) ι blk l := by
 have := s.dom i
 rw [e] at this
 cases hl : ι i with
 | none => rw [hl] at this; cases this
 | some l => exact ⟨l, rfl, s.rel i blk l e hl⟩
theorem Sim.lost {X : Nat → Prop} {h : Zaq} {ι : Zai} {w : World} (s : Sim X h ι w) {i : Id} (e : h i = none) : ι i = none := by
 have := s.dom i
 rw [e] at this
 cases hl : ι i with
 | none => rfl
 | some l => rw [hl] at this; cases this
theorem BRel.lt {w : World} {own : Nat → Prop} {ι : Zai} {blk : Zau} {b c : Nat} (h : BRel w own ι blk (.at b c)) : b < w.heap.size := by
 have : (w.heap[b]?).isSome = true := by
  cases blk with
  | row imm sz n f => obtain ⟨arr, T, e, _⟩ := h; rw [e]; rfl
  | map m => exact MBRel_some h
 rcases Nat.lt_or_ge b w.heap.size with hlt | hge
 ·exact hlt
 ·rw [Array.getElem?_eq_none hge] at this; cases this
theorem Sim.lt {X : Nat → Prop} {h : Zaq} {ι : Zai} {w : World} (s : Sim X h ι w) {i : Id} {b c : Nat} (e : ι i = some (.at b c)) : b < w.heap.size := by
 have hd := s.dom i
 rw [e] at hd
 cases hh : h i with
 | none => rw [hh] at hd; cases hd
 | some blk => exact (s.rel i blk _ hh e).lt
theorem Sim.own_lt {X : Nat → Prop} {h : Zaq} {ι : Zai} {w : World} (s : Sim X h ι w) {b : Nat} (e : Own X ι b) : b < w.heap.size := by
 rcases e with e | ⟨i, c, e⟩
 ·exact s.below b e
 ·exact s.lt e
structure Fr (own : Nat → Prop) (w w' : World) : Prop where
 os : w'.os = w.os
 tape : w'.tape = w.tape
 output : w'.output = w.output
 size : w.heap.size ≤ w'.heap.size
 block : ∀ b, b < w.heap.size → ¬ own b → w'.heap[b]? = w.heap[b]?
 fz : ∀ a, a.block < w.heap.size → w'.frozen? a = w.frozen? a
theorem Fr.refl (own : Nat → Prop) (w : World) : Fr own w w := ⟨rfl, rfl, rfl, Nat.le_refl _, fun _ _ _ => rfl, fun _ _ => rfl⟩
theorem Fr.trans {own own' : Nat → Prop} {a b c : World} (h : Fr own a b) (k : Fr own' b c) (ho : ∀ x, own' x → own x ∨ a.heap.size ≤ x) : Fr own a c :=
 ⟨k.os.trans h.os, k.tape.trans h.tape, k.output.trans h.output, Nat.le_trans h.size k.size, fun x hx hn => by
  rw [k.block x (Nat.lt_of_lt_of_le hx h.size) (fun hx' => (ho x hx').elim hn (by omega)), h.block x hx hn], fun a ha => (k.fz a (Nat.lt_of_lt_of_le ha h.size)).trans (h.fz a ha)⟩
theorem Fr.weak {own own' : Nat → Prop} {a b : World} (h : Fr own a b) (ho : ∀ x, own x → own' x) : Fr own' a b :=
 ⟨h.os, h.tape, h.output, h.size, fun x hx hn => h.block x hx (fun e => hn (ho x e)), h.fz⟩
theorem Sim.still {X : Nat → Prop} {h : Zaq} {ι : Zai} {w w' : World} (s : Sim X h ι w) (f : Fr (fun _ => False) w w') : Sim X h ι w' := by
 have k : Keep w w' (Own X ι) (Own X ι) := ⟨f.size, fun b hb _ => f.block b hb (fun h => h), fun _ _ h => h⟩
 refine ⟨s.dom, fun i blk l e1 e2 => ?_, s.inj, s.apart, fun b hb => Nat.lt_of_lt_of_le (s.below b hb) f.size⟩
 have hr := s.rel i blk l e1 e2
 cases l with
 | nil => cases blk <;> exact hr
 | ghost => cases blk <;> exact hr
 | «at» b c =>
  have hsame : w'.heap[b]? = w.heap[b]? := f.block b hr.lt (fun h => h)
  cases blk with
  | row imm sz n g =>
   obtain ⟨arr, T, e, h1, h2, h3⟩ := hr
   exact ⟨arr, T, by rw [hsame]; exact e, h1, h2, fun i hi => ⟨(h3 i hi).1, Zc8 k _ b _ hsame (Sub.refl _) (h3 i hi).2⟩⟩
  | map m => exact MBRel_keep (Sub.refl _) hsame hr
def kill (i : Id) : Id → Option Id := fun j => bif idEq i j then none else some j
theorem kill_some {i j k : Id} (h : kill i j = some k) : j ≠ i ∧ k = j := by
 unfold kill at h
 cases e : idEq i j with
 | true => rw [e] at h; cases h
 | false => rw [e] at h; exact ⟨fun e' => Zbq.1 e e'.symm, (Option.some.inj h).symm⟩
def mapMB (ρ : Id → Option Id) : MB → MB
 | .assoc κ m => .assoc κ m
 | .exact es clock => .exact es clock
 | .itr mid since seen c0 => match ρ mid with | some j => .itr j since seen c0 | none => .any
 | .any => .any
theorem MBRel_map {w : World} {ι ι' : Zai} {ρ : Id → Option Id} {b : Nat} (hρ : MapOk ρ ι ι') : ∀ {m : MB}, Zeq w ι b m → Zeq w ι' b (mapMB ρ m)
 | .assoc _ _, h => h
 | .exact _ _, h => h
 | .itr mid _ _ _, h => by
   simp only [Zeq, mapMB] at h ⊢
   obtain ⟨bm, c, h1, h2⟩ := h
   cases e : ρ mid with
   | none => simp only [Zeq]; exact ⟨_, _, _, _, h2⟩
   | some j => simp only [Zeq]; exact ⟨bm, c, hρ mid j e _ (by simp) h1, h2⟩
 | .any, h => h
def mapB (ρ : Id → Option Id) : Zau → Zau
 | .row imm sz n f => .row imm sz n (bif imm then f else fun k => Zb4 ρ (f k))
 | .map m => .map (mapMB ρ m)
def killH (i : Id) (h : Zaq) : Zaq := fun j => bif idEq i j then none else (h j).map (mapB (kill i))
def memI (i : Id) : List Id → Bool
 | [] => false
 | j :: r => idEq i j || memI i r
theorem Zfj {i : Id} : ∀ {l : List Id}, memI i l = true ↔ i ∈ l
 | [] => by simp [memI]
 | j :: r => by simp only [memI, Bool.or_eq_true, Zfj (l := r), Zbe, List.mem_cons]
def Zbv : List (Id × Zau) → Zaq
 | [], _ => none
 | (i, b) :: r, j => bif idEq i j then some b else Zbv r j
def killL (l : List Id) : Id → Option Id := fun j => bif memI j l then none else some j
def mapK (dead : List Id) (x : AV) : AV := match dead with
 | [] => x
 | _ :: _ => Zbj (killL dead) x
def mapKB (dead : List Id) (b : Zau) : Zau := match dead with
 | [] => b
 | _ :: _ => mapB (killL dead) b
def bigH (dead : List Id) (ups : Zaq) (h : Zaq) : Zaq := fun j => match ups j with
 | some b => some b
 | none => bif memI j dead then none else (h j).map (mapKB dead)
theorem BRel_mapG {w : World} {own : Nat → Prop} {ι ι' : Zai} {ρ : Id → Option Id} (hρ : MapOk ρ ι ι') (blk : Zau) (l : Loc) (h : BRel w own ι blk l) : BRel w own ι' (mapB ρ blk) l := by
 cases blk with
 | row imm sz n f =>
  cases l with
  | ghost => cases imm <;> trivial
  | nil => exact h
  | «at» b c =>
   obtain ⟨arr, T, e, h1, h2, h3⟩ := h
   refine ⟨arr, T, e, h1, h2, fun i hi => ?_⟩
   obtain ⟨h4, h5⟩ := h3 i hi
   cases imm with
   | true => exact ⟨h4, h5⟩
   | false => exact ⟨by simpa [Zfm] using h4, Vc_mapG hρ _ _ _ h5⟩
 | map m =>
  cases l with
  | ghost => trivial
  | nil => exact h
  | «at» b c => exact MBRel_map hρ h
theorem BRel_map {w : World} {own : Nat → Prop} {ι ι' : Zai} {ρ : Id → Option Id} (hρ : ∀ i j, ρ i = some j → ι' j = ι i) (blk : Zau) (l : Loc) (h : BRel w own ι blk l) : BRel w own ι' (mapB ρ blk) l := BRel_mapG (.of hρ) blk l h
theorem Zb8 {w w' : World} {own own' : Nat → Prop} (k : Keep w w' own own') {ι ι' : Zai} (hs : Sub ι ι') (blk : Zau) (l : Loc)
  (hb : ∀ b c, l = .at b c → w'.heap[b]? = w.heap[b]?) (h : BRel w own ι blk l) : BRel w' own' ι' blk l := by
 cases l with
 | ghost => cases blk <;> trivial
 | nil => cases blk <;> exact h
 | «at» b c =>
  have hsame := hb b c rfl
  cases blk with
  | row imm sz n g =>
   obtain ⟨arr, T, e, h1, h2, h3⟩ := h
   refine ⟨arr, T, by rw [hsame]; exact e, h1, h2, fun i hi => ⟨(h3 i hi).1, ?_⟩⟩
   have h4 := (h3 i hi).2
   cases imm with
   | true => exact Zc8 k _ b _ hsame (Sub.refl _) h4
   | false => exact Zc8 k _ b _ hsame hs h4
  | map m => exact MBRel_keep hs hsame h
theorem Zds {ι : Zai} {i : Id} {l : Option Loc} (h : ι i = none) : Sub ι (updP ι i l) := fun j m e => by
 rw [Za8 (fun e' => by rw [e', h] at e; cases e)]; exact e
structure New (w w' : World) : Prop where
 os : w'.os = w.os
 tape : w'.tape = w.tape
 output : w'.output = w.output
 size : w.heap.size < w'.heap.size
 old : ∀ k, k < w.heap.size → w'.heap[k]? = w.heap[k]?
 fz : ∀ a, w'.frozen? a = w.frozen? a
theorem New.alloc (w : World) (c : Array Value) (t : TypeId) : New w (w.alloc (.cells c t)) := ⟨rfl, rfl, rfl, by simp, fun k hk => Go.RowKit.Below.heap_alloc w _ k hk, fun a => Go.RowKit.frozen?_alloc_cells w c t a⟩
theorem New.drewAlloc (w : World) (c : Array Value) (t : TypeId) : New w (w.drew.alloc (.cells c t)) := ⟨rfl, rfl, rfl, by simp, fun k hk => Go.RowKit.Below.heap_alloc w.drew _ k hk, fun a => (Go.RowKit.frozen?_alloc_cells w.drew c t a).trans rfl⟩
theorem setRow_fz {w : World} {b : Nat} {arr arr' : Array Value} {T : TypeId} (h : w.heap[b]? = some (.cells arr T (0, 0))) (a : Addr) : (w.setRow b arr').frozen? a = w.frozen? a := by
 by_cases e : a.block = b
 ·have h2 := setRow_heap w b arr arr' T _ h
  simp only [World.frozen?, e, h, h2]
 ·simp only [World.frozen?, setRow_other w b a.block arr' e]
theorem Sim.keepNew {X : Nat → Prop} {h : Zaq} {ι : Zai} {w w' : World} (s : Sim X h ι w) {i : Id} (nw : New w w') (c : Nat) :
  Keep w w' (Own X ι) (Own X (updP ι i (some (.at w.heap.size c)))) := by
 refine ⟨by have := nw.size; omega, fun b hb _ => nw.old b hb, ?_⟩
 intro b hb ho
 rcases ho with ho | ⟨j, d, e⟩
 ·exact .inl ho
 ·by_cases hj : j = i
  ·subst hj; rw [Zav] at e; cases e; omega
  ·rw [Za8 hj] at e; exact .inr ⟨j, d, e⟩
theorem Sim.alloc {X : Nat → Prop} {h : Zaq} {ι : Zai} {w w' : World} (s : Sim X h ι w) {i : Id} (hi : h i = none) (nw : New w w') (c : Nat) (blk : Zau)
  (hb : BRel w' (Own X (updP ι i (some (.at w.heap.size c)))) (updP ι i (some (.at w.heap.size c))) blk (.at w.heap.size c)) :
  Sim X (updH h i (some blk)) (updP ι i (some (.at w.heap.size c))) w' := by
 have hsz := nw.size
 have hne : ι i = Option.none := s.lost hi
 have hsub : Sub ι (updP ι i (some (.at w.heap.size c))) := Zds hne
 have k := s.keepNew (i := i) nw c
 refine ⟨fun j => ?_, fun j blk' l e1 e2 => ?_, fun j j' b c1 c2 e1 e2 => ?_, fun j b c1 e => ?_, fun b hb => by have := s.below b hb; omega⟩
 ·by_cases hj : j = i
  ·subst hj; rw [Zav, Zbw]; rfl
  ·rw [Za8 hj, Zcv hj]; exact s.dom j
 ·by_cases hj : j = i
  ·subst hj; rw [Zbw] at e1; rw [Zav] at e2; cases e1; cases e2; exact hb
  ·rw [Zcv hj] at e1; rw [Za8 hj] at e2
   have hr := s.rel j blk' l e1 e2
   exact Zb8 k hsub blk' l (fun b c hl => by subst hl; exact nw.old b hr.lt) hr
 ·by_cases hj : j = i
  ·by_cases hj' : j' = i
   ·rw [hj, hj']
   ·subst hj; rw [Zav] at e1; rw [Za8 hj'] at e2; cases e1; have := s.lt e2; omega
  ·by_cases hj' : j' = i
   ·subst hj'; rw [Zav] at e2; rw [Za8 hj] at e1; cases e2; have := s.lt e1; omega
   ·rw [Za8 hj] at e1; rw [Za8 hj'] at e2; exact s.inj j j' b c1 c2 e1 e2
 ·by_cases hj : j = i
  ·subst hj; rw [Zav] at e; cases e; intro hx; have := s.below _ hx; omega
  ·rw [Za8 hj] at e; exact s.apart j b c1 e
theorem Sim.nilNew {X : Nat → Prop} {h : Zaq} {ι : Zai} {w : World} (s : Sim X h ι w) {i : Id} (hi : h i = none) (blk : Zau)
  (hb : BRel w (Own X (updP ι i (some .nil))) (updP ι i (some .nil)) blk .nil) :
  Sim X (updH h i (some blk)) (updP ι i (some .nil)) w ∧ Keep w w (Own X ι) (Own X (updP ι i (some .nil))) := by
 have hne : ι i = Option.none := s.lost hi
 have hsub : Sub ι (updP ι i (some .nil)) := Zds hne
 have k : Keep w w (Own X ι) (Own X (updP ι i (some .nil))) := by
  refine ⟨Nat.le_refl _, fun _ _ _ => rfl, fun b _ ho => ?_⟩
  rcases ho with ho | ⟨j, d, e⟩
  ·exact .inl ho
  ·by_cases hj : j = i
   ·subst hj; rw [Zav] at e; cases e
   ·rw [Za8 hj] at e; exact .inr ⟨j, d, e⟩
 refine ⟨⟨fun j => ?_, fun j blk' l e1 e2 => ?_, fun j j' b c1 c2 e1 e2 => ?_, fun j b c1 e => ?_, s.below⟩, k⟩
 ·by_cases hj : j = i
  ·subst hj; rw [Zav, Zbw]; rfl
  ·rw [Za8 hj, Zcv hj]; exact s.dom j
 ·by_cases hj : j = i
  ·subst hj; rw [Zbw] at e1; rw [Zav] at e2; cases e1; cases e2; exact hb
  ·rw [Zcv hj] at e1; rw [Za8 hj] at e2
   exact Zb8 k hsub blk' l (fun _ _ _ => rfl) (s.rel j blk' l e1 e2)
 ·by_cases hj : j = i
  ·subst hj; rw [Zav] at e1; cases e1
  ·by_cases hj' : j' = i
   ·subst hj'; rw [Zav] at e2; cases e2
   ·rw [Za8 hj] at e1; rw [Za8 hj'] at e2; exact s.inj j j' b c1 c2 e1 e2
 ·by_cases hj : j = i
  ·subst hj; rw [Zav] at e; cases e
  ·rw [Za8 hj] at e; exact s.apart j b c1 e
theorem Sim.ghostNew {X : Nat → Prop} {h : Zaq} {ι : Zai} {w : World} (s : Sim X h ι w) {i : Id} (hi : h i = none) (blk : Zau) :
  Sim X (updH h i (some blk)) (updP ι i (some .ghost)) w ∧ Keep w w (Own X ι) (Own X (updP ι i (some .ghost))) := by
 have hne : ι i = Option.none := s.lost hi
 have hsub : Sub ι (updP ι i (some .ghost)) := Zds hne
 have k : Keep w w (Own X ι) (Own X (updP ι i (some .ghost))) := by
  refine ⟨Nat.le_refl _, fun _ _ _ => rfl, fun b _ ho => ?_⟩
  rcases ho with ho | ⟨j, d, e⟩
  ·exact .inl ho
  ·by_cases hj : j = i
   ·subst hj; rw [Zav] at e; cases e
   ·rw [Za8 hj] at e; exact .inr ⟨j, d, e⟩
 refine ⟨⟨fun j => ?_, fun j blk' l e1 e2 => ?_, fun j j' b c1 c2 e1 e2 => ?_, fun j b c1 e => ?_, s.below⟩, k⟩
 ·by_cases hj : j = i
  ·subst hj; rw [Zav, Zbw]; rfl
  ·rw [Za8 hj, Zcv hj]; exact s.dom j
 ·by_cases hj : j = i
  ·subst hj; rw [Zbw] at e1; rw [Zav] at e2; cases e1; cases e2; cases blk <;> trivial
  ·rw [Zcv hj] at e1; rw [Za8 hj] at e2
   exact Zb8 k hsub blk' l (fun _ _ _ => rfl) (s.rel j blk' l e1 e2)
 ·by_cases hj : j = i
  ·subst hj; rw [Zav] at e1; cases e1
  ·by_cases hj' : j' = i
   ·subst hj'; rw [Zav] at e2; cases e2
   ·rw [Za8 hj] at e1; rw [Za8 hj'] at e2; exact s.inj j j' b c1 c2 e1 e2
 ·by_cases hj : j = i
  ·subst hj; rw [Zav] at e; cases e
  ·rw [Za8 hj] at e; exact s.apart j b c1 e
theorem Sim.write {X : Nat → Prop} {h : Zaq} {ι : Zai} {w w' : World} (s : Sim X h ι w) {i : Id} {b c : Nat} (hi : ι i = some (.at b c)) (blk : Zau)
  (hsz : w'.heap.size = w.heap.size) (hoth : ∀ k, k ≠ b → w'.heap[k]? = w.heap[k]?) (hb : Keep w w' (Own X ι) (Own X ι) → BRel w' (Own X ι) ι blk (.at b c)) :
  Sim X (updH h i (some blk)) ι w' ∧ Keep w w' (Own X ι) (Own X ι) := by
 have k : Keep w w' (Own X ι) (Own X ι) := ⟨by omega, fun x hx hn => hoth x (fun e => hn (.inr ⟨i, c, e ▸ hi⟩)), fun _ _ h => h⟩
 refine ⟨⟨fun j => ?_, fun j blk' l e1 e2 => ?_, s.inj, s.apart, fun x hx => by have := s.below x hx; omega⟩, k⟩
 ·by_cases hj : j = i
  ·subst hj; rw [hi, Zbw]; rfl
  ·rw [Zcv hj]; exact s.dom j
 ·by_cases hj : j = i
  ·subst hj; rw [Zbw] at e1; cases e1; rw [hi] at e2; cases e2; exact hb k
  ·rw [Zcv hj] at e1
   have hr := s.rel j blk' l e1 e2
   exact Zb8 k (Sub.refl _) blk' l (fun b' c' hl => by
    subst hl
    exact hoth b' (fun e => hj (s.inj j i b c' c (e ▸ e2) hi))) hr
theorem Sim.move {X : Nat → Prop} {h : Zaq} {ι : Zai} {w w' : World} (s : Sim X h ι w) {i j : Id} (hj : h j = none) {l : Loc} (blk : Zau)
  (k : Keep w w' (Own X ι) (Own X (updP (updP ι i none) j (some l))))
  (hoth : ∀ i' b c, i' ≠ i → ι i' = some (.at b c) → w'.heap[b]? = w.heap[b]?)
  (hb : BRel w' (Own X (updP (updP ι i none) j (some l))) (updP (updP ι i none) j (some l)) blk l)
  (hl : ∀ b c, l = .at b c → ¬ X b ∧ ∀ i' d, i' ≠ i → ι i' ≠ some (.at b d)) :
  Sim X (updH (killH i h) j (some blk)) (updP (updP ι i none) j (some l)) w' := by
 have hιj : ι j = Option.none := s.lost hj
 have hρ : ∀ a b, kill i a = some b → updP (updP ι i none) j (some l) b = ι a ∨ ι a = Option.none := by
  intro a b e
  obtain ⟨h1, rfl⟩ := kill_some e
  by_cases e2 : b = j
  ·right; rw [e2]; exact hιj
  ·left; rw [Za8 e2, Za8 h1]
 have hst : ∀ a m, a ≠ i → ι a = some m → updP (updP ι i none) j (some l) a = some m := by
  intro a m h1 e
  have : a ≠ j := fun e2 => by rw [e2, hιj] at e; cases e
  rw [Za8 this, Za8 h1]; exact e
 refine ⟨fun a => ?_, fun a blk' m e1 e2 => ?_, fun a a' b c1 c2 e1 e2 => ?_, fun a b c1 e => ?_, fun b hb' => Nat.lt_of_lt_of_le (s.below b hb') k.size⟩
 ·by_cases ha : a = j
  ·subst ha; rw [Zav, Zbw]; rfl
  ·rw [Za8 ha, Zcv ha]
   by_cases hi : a = i
   ·subst hi; rw [Zav]; simp [killH, Zbe.2 rfl]
   ·rw [Za8 hi]; simp [killH, Zbq.2 (fun e => hi e.symm), s.dom a]
 ·by_cases ha : a = j
  ·subst ha; rw [Zbw] at e1; rw [Zav] at e2; cases e1; cases e2; exact hb
  ·rw [Za8 ha] at e2; rw [Zcv ha] at e1
   by_cases hi : a = i
   ·subst hi; rw [Zav] at e2; cases e2
   ·rw [Za8 hi] at e2
    simp only [killH, Zbq.2 (fun e => hi e.symm), cond_false] at e1
    cases hh : h a with
    | none => rw [hh] at e1; cases e1
    | some b0 =>
     rw [hh] at e1
     have e1' : mapB (kill i) b0 = blk' := Option.some.inj e1
     subst e1'
     have hr := s.rel a b0 m hh e2
     have hr' := BRel_map (ι' := fun x => bif idEq i x then none else ι x) (ρ := kill i) (fun x y e => by
      obtain ⟨h1, rfl⟩ := kill_some e
      simp [Zbq.2 (fun e => h1 e.symm)]) b0 m hr
     refine Zb8 k (fun x y e => ?_) _ m (fun b c hm => hoth a b c hi (hm ▸ e2)) hr'
     cases hx : idEq i x with
     | true => rw [hx] at e; cases e
     | false => rw [hx] at e; exact hst x y (fun e' => Zbq.1 hx e'.symm) e
 ·by_cases ha : a = j
  ·by_cases ha' : a' = j
   ·rw [ha, ha']
   ·subst ha; rw [Zav] at e1; rw [Za8 ha'] at e2
    by_cases hi : a' = i
    ·subst hi; rw [Zav] at e2; cases e2
    ·rw [Za8 hi] at e2; cases e1; exact absurd e2 ((hl b c1 rfl).2 a' c2 hi)
  ·by_cases ha' : a' = j
   ·subst ha'; rw [Zav] at e2; rw [Za8 ha] at e1
    by_cases hi : a = i
    ·subst hi; rw [Zav] at e1; cases e1
    ·rw [Za8 hi] at e1; cases e2; exact absurd e1 ((hl b c2 rfl).2 a c1 hi)
   ·rw [Za8 ha] at e1; rw [Za8 ha'] at e2
    by_cases hi : a = i
    ·subst hi; rw [Zav] at e1; cases e1
    ·by_cases hi' : a' = i
     ·subst hi'; rw [Zav] at e2; cases e2
     ·rw [Za8 hi] at e1; rw [Za8 hi'] at e2; exact s.inj a a' b c1 c2 e1 e2
 ·by_cases ha : a = j
  ·subst ha; rw [Zav] at e; cases e; exact (hl b c1 rfl).1
  ·rw [Za8 ha] at e
   by_cases hi : a = i
   ·subst hi; rw [Zav] at e; cases e
   ·rw [Za8 hi] at e; exact s.apart a b c1 e
structure ASt where
 tm : Nat → AV
 h : Zaq
def updT (tm : Nat → AV) (d : Nat) (v : AV) : Nat → AV := fun t => bif Nat.beq d t then v else tm t
theorem updT_same (tm : Nat → AV) (d : Nat) (v : AV) : updT tm d v d = v := by simp [updT]
theorem updT_ne {tm : Nat → AV} {d t : Nat} {v : AV} (h : t ≠ d) : updT tm d v t = tm t := by
 have : Nat.beq d t = false := by
  cases e : Nat.beq d t with
  | true => exact absurd (Nat.eq_of_beq_eq_true e).symm h
  | false => rfl
 simp [updT, this]
def ASt.put (σ : ASt) (d : Option Tmp) (v : AV) : ASt := match d with
 | some d => ⟨updT σ.tm d v, σ.h⟩
 | none => σ
structure St (n : Nat) (X : Nat → Prop) (σ : ASt) (ι : Zai) (a : Act) (w : World) : Prop where
 sim : Sim X σ.h ι w
 defers : a.defers = []
 size : a.tmps.size = n
 tm : ∀ t, V w (Own X ι) (σ.tm t) ι (a.tmps.getD t undef)
structure Goes (_ : Nat → Prop) (ι ι' : Zai) (w w' : World) : Prop where
 fr : Fr (Mine ι) w w'
 ext : ∀ b, Mine ι' b → Mine ι b ∨ w.heap.size ≤ b
theorem Goes.refl (X : Nat → Prop) (ι : Zai) (w : World) : Goes X ι ι w w := ⟨Fr.refl _ _, fun _ h => .inl h⟩
theorem Goes.trans {X : Nat → Prop} {ι1 ι2 ι3 : Zai} {a b c : World} (h : Goes X ι1 ι2 a b) (k : Goes X ι2 ι3 b c) : Goes X ι1 ι3 a c :=
 ⟨h.fr.trans k.fr h.ext, fun x hx => (k.ext x hx).elim (fun h' => h.ext x h') (fun h' => .inr (Nat.le_trans h.fr.size h'))⟩
theorem Zek {ι : Zai} {i : Id} {l : Option Loc} {b : Nat} (h : Mine (updP ι i l) b) : Mine ι b ∨ ∃ c, l = some (.at b c) := by
 obtain ⟨j, c, e⟩ := h
 by_cases hj : j = i
 ·subst hj; rw [Zav] at e; exact .inr ⟨c, e⟩
 ·rw [Za8 hj] at e; exact .inl ⟨j, c, e⟩
theorem St.put {n : Nat} {X : Nat → Prop} {σ : ASt} {ι : Zai} {a : Act} {w : World} (s : St n X σ ι a w) (d : Option Tmp) (x : AV) (v : Value)
  (hd : ∀ k, d = some k → k < n) (h : V w (Own X ι) x ι v) : St n X (σ.put d x) ι (a.put d v) w := by
 cases d with
 | none => exact s
 | some d =>
  refine ⟨s.sim, s.defers, by simpa [Act.put] using s.size, fun t => ?_⟩
  have hdn := hd d rfl
  by_cases e : t = d
  ·subst e
   have hlt : t < a.tmps.size := by rw [s.size]; exact hdn
   simp only [ASt.put, updT_same, Act.put]
   have : (a.tmps.setIfInBounds t v).getD t undef = v := by simp [Array.getD_eq_getD_getElem?, hlt]
   rw [this]; exact h
  ·simp only [ASt.put, updT_ne e, Act.put]
   have : (a.tmps.setIfInBounds d v).getD t undef = a.tmps.getD t undef := by
    simp [Array.getD_eq_getD_getElem?, Array.getElem?_setIfInBounds_ne (fun e' => e e'.symm)]
   rw [this]; exact s.tm t
inductive TK where
 | int (k : IntKind)
 | bool
 | string
 | slice (e : Nat)
 | struct (fs : List (Nat × Nat))
 | array (n e : Nat)
 | map (κ : MK) (k e : Nat)
 | other
structure TI where
 size : Nat
 bytes : Nat
 kind : TK
 zero : List AV
def TK.agg : TK → Bool
 | .struct _ | .array _ _ => true
 | _ => false
def TK.rel : TK → TypeDesc → Prop
 | .int k, .int k' => k = k'
 | .bool, .bool => True
 | .string, .string => True
 | .slice e, .slice e' => e = e'
 | .struct fs, .struct gs => fs = gs.toList.map fun g => (g.offset, g.type)
 | .array n e, .array n' e' => n = n' ∧ e = e'
 | .map _ k e, .map k' e' => k = k' ∧ e = e'
 | .other, .pointer _ | .other, .interface _ | .other, .func .. | .other, .tuple _ => True
 | _, _ => False
structure KeyedOk (P : Program) (κ : MK) (k e : TypeId) : Prop where
 keyed : Go.Maps.Keyed P k
 reads : ∀ key, KeyOk κ key → ∃ l, keyOf P k (keyV κ key) = some l
 one : κ.agg = false → κ.n = 1
 elem : ∃ i, P.info? e = some i ∧ i.zero = some (.int κ.vk 0)
abbrev Zbc := Nat → Option TI
structure TI.Ok (P : Program) (t : Nat) (ti : TI) (i : TypeInfo) (d : TypeDesc) (z : Value) : Prop where
 info : P.info? t = some i
 und : P.underlying t = some d
 size : i.size = ti.size
 bytes : i.bytes = ti.bytes
 kind : ti.kind.rel d
 zero : i.zero = some z
 zeroV : ∀ w own ι, Vs w own ti.zero ι z.cells.toList
 zeroN : z.cells.size = ti.size
 agg : ti.kind.agg = true → ∃ a, z = .agg a
 parts : ∀ gs, d = .struct gs → ∀ g ∈ gs, ∃ j, P.info? g.type = some j
 keyed : ∀ κ k e, ti.kind = .map κ k e → KeyedOk P κ k e
def TOk (P : Program) (T : Zbc) : Prop := ∀ t ti, T t = some ti → ∃ i d z, ti.Ok P t i d z
def cval0 : Value → AV
 | .int k n => bif decide (k.min ≤ n ∧ n ≤ k.max) then .int k n else .any
 | .bool b => .bool b
 | .string s => bif decide (s.size ≤ mL) then .str s else .any
 | .slice none 0 0 => .nsl
 | .pointer none => .np
 | .nilIface => .nif
 | .nilFunc => .nfn
 | _ => .any
def cval : Value → AV
 | .agg cs => .agg (cs.toList.map cval0)
 | v => cval0 v
theorem cval0_V (w : World) (own : Nat → Prop) (ι : Zai) (v : Value) : V w own (cval0 v) ι v := by
 unfold cval0
 split
 ·rename_i k n
  cases h : decide (k.min ≤ n ∧ n ≤ k.max) with
  | true => simp only [cond_true, V]; have := of_decide_eq_true h; exact ⟨trivial, this.1, this.2⟩
  | false => simp only [cond_false, V]
 ·simp [V]
 ·rename_i s
  cases h : decide (s.size ≤ mL) with
  | true => simp only [cond_true, V]; exact ⟨trivial, of_decide_eq_true h⟩
  | false => simp only [cond_false, V]
 all_goals simp [V]
theorem cvals_V (w : World) (own : Nat → Prop) (ι : Zai) : ∀ vs : List Value, Vs w own (vs.map cval0) ι vs
 | [] => by simp [Vs]
 | v :: vs => by simp only [List.map_cons, Vs]; exact ⟨v, vs, rfl, cval0_V w own ι v, cvals_V w own ι vs⟩
theorem cval_V (w : World) (own : Nat → Prop) (ι : Zai) (v : Value) : V w own (cval v) ι v := by
 unfold cval
 split
 ·rename_i cs
  simp only [V]
  exact ⟨cs.toList, by simp, cvals_V w own ι cs.toList⟩
 ·exact cval0_V w own ι v
def ASt.opv (σ : ASt) : Operand → AV
 | .tmp t => σ.tm t
 | .const v => cval v
 | .func f => .fn f []
 | .global _ => .any
theorem St.opv {n : Nat} {X : Nat → Prop} {σ : ASt} {ι : Zai} {a : Act} {w : World} (s : St n X σ ι a w) (x : Operand) : V w (Own X ι) (σ.opv x) ι (a.eval x) := by
 cases x with
 | tmp t => exact s.tm t
 | const v => exact cval_V _ _ _ v
 | func f => simp only [ASt.opv, V, Act.eval]; exact ⟨[], by simp, by simp [Vs]⟩
 | global g => simp [ASt.opv, V]
inductive Up where
 | none
 | alloc (b : Zau)
 | box (cs : List AV)
 | bld (sz n : Nat) (cs : List AV)
 | write (i : Id) (b : Zau)
 | wr (i : Id) (imm : Bool) (sz n : Nat) (f : Nat → List AV) (st : Nat) (cs : List AV)
 | move (i : Id) (b : Zau)
 | big (dead : List Id) (ups : Zaq)
structure Ev where
 obl : Option Prop
 val : AV
 up : Up
 rd : List Id
def Ev.pure (v : AV) : Option Ev := some ⟨none, v, .none, []⟩
def Zch : AV → Bool
 | .int _ _ | .bool _ | .str _ | .sl _ _ _ | .nsl | .ip _ | .np | .nif | .nfn => true
 | .fn _ cs => cs.isEmpty
 | _ => false
def Zcj : AV → Bool
 | .any | .agg _ | .tup _ | .guard _ _ _ => false
 | _ => true
def allB (p : AV → Bool) : List AV → Bool
 | [] => true
 | x :: r => p x && allB p r
def cellsOf : AV → List AV
 | .agg cs => cs
 | x => [x]
def kEq : IntKind → IntKind → Bool
 | .i8, .i8 | .i16, .i16 | .i32, .i32 | .i64, .i64 | .u8, .u8 | .u16, .u16 | .u32, .u32 | .u64, .u64 => true
 | _, _ => false
theorem Zd1 {a b : IntKind} : kEq a b = true ↔ a = b := by cases a <;> cases b <;> simp [kEq]
def dropL : Nat → List AV → List AV
 | 0, l => l
 | _ + 1, [] => []
 | n + 1, _ :: l => dropL n l
def takeL : Nat → List AV → List AV
 | 0, _ => []
 | _ + 1, [] => []
 | n + 1, x :: l => x :: takeL n l
theorem Zc5 : ∀ n l, dropL n l = l.drop n
 | 0, l => by simp [dropL]
 | n + 1, [] => by simp [dropL]
 | n + 1, _ :: l => by simp [dropL, Zc5 n l]
theorem Zde : ∀ n l, takeL n l = l.take n
 | 0, l => by simp [takeL]
 | n + 1, [] => by simp [takeL]
 | n + 1, _ :: l => by simp [takeL, Zde n l]
def Zev : Nat → List AV → List AV → List AV
 | 0, [], l => l
 | 0, _ :: _, [] => []
 | 0, c :: cs, _ :: l => c :: Zev 0 cs l
 | _ + 1, _, [] => []
 | n + 1, cs, x :: l => x :: Zev n cs l
def Zeh (agg : Bool) (cs : List AV) : AV :=
 bif agg then .agg cs else match cs with
  | [c] => c
  | _ => .any
def nth (fs : List (Nat × Nat)) : Nat → Option (Nat × Nat)
 | 0 => match fs with | [] => none | x :: _ => some x
 | n + 1 => match fs with | [] => none | _ :: r => nth r n
theorem nth_eq : ∀ (fs : List (Nat × Nat)) (n : Nat), nth fs n = fs[n]?
 | [], 0 => by simp [nth]
 | _ :: _, 0 => by simp [nth]
 | [], n + 1 => by simp [nth]
 | _ :: r, n + 1 => by simp [nth, nth_eq r n]
def updR (f : Nat → List AV) (k : Nat) (c : List AV) : Nat → List AV := fun i => bif Nat.beq k i then c else f i
def Zfd (sz : Nat) (cs : List AV) : Nat → List AV := fun i => takeL sz (dropL (i * sz) cs)
def bld (sz n : Nat) (cs : List AV) : Zau := .row (allB Zch cs) sz n (Zfd sz cs)
def Zam (cs : List AV) : Zau := .row (allB Zch cs) cs.length 1 (fun _ => cs)
def appR (n : Nat) (f g : Nat → List AV) : Nat → List AV := fun i => bif Nat.blt i n then f i else g (i - n)
theorem Zec (b o j : Nat) : (⟨b, o, none⟩ : Addr).add j = ⟨b, o + j, none⟩ := by
 unfold Addr.add; split
 ·rename_i h; subst h; rfl
 ·rfl
theorem Zby {w : World} {own : Nat → Prop} {ι : Zai} : ∀ {cs : List AV} {vs : List Value}, Vs w own cs ι vs → cs.length = vs.length
 | [], vs, h => by simp only [Vs] at h; simp [h]
 | _ :: cs, vs, h => by
   simp only [Vs] at h
   obtain ⟨v, r, e, _, h2⟩ := h
   subst e; simp [Zby h2]
theorem Vs_get {w : World} {own : Nat → Prop} {ι : Zai} : ∀ {cs : List AV} {vs : List Value} (k : Nat) {x : AV}, Vs w own cs ι vs → cs[k]? = some x → ∃ v, vs[k]? = some v ∧ V w own x ι v
 | [], _, k, x, _, e => by simp at e
 | c :: cs, vs, 0, x, h, e => by
   simp only [Vs] at h
   obtain ⟨v, r, e1, h1, _⟩ := h
   subst e1
   simp at e; subst e
   exact ⟨v, by simp, h1⟩
 | c :: cs, vs, k + 1, x, h, e => by
   simp only [Vs] at h
   obtain ⟨v, r, e1, _, h2⟩ := h
   subst e1
   obtain ⟨u, e2, h3⟩ := Vs_get k h2 (by simpa using e)
   exact ⟨u, by simpa using e2, h3⟩
theorem Vs_drop {w : World} {own : Nat → Prop} {ι : Zai} : ∀ (n : Nat) {cs : List AV} {vs : List Value}, Vs w own cs ι vs → Vs w own (cs.drop n) ι (vs.drop n)
 | 0, _, _, h => by simpa using h
 | n + 1, [], vs, h => by simp only [Vs] at h; subst h; simp [Vs]
 | n + 1, c :: cs, vs, h => by
   simp only [Vs] at h
   obtain ⟨v, r, e, _, h2⟩ := h
   subst e; simpa using Vs_drop n h2
theorem Vs_take {w : World} {own : Nat → Prop} {ι : Zai} : ∀ (n : Nat) {cs : List AV} {vs : List Value}, Vs w own cs ι vs → Vs w own (cs.take n) ι (vs.take n)
 | 0, _, _, h => by simp [Vs]
 | n + 1, [], vs, h => by simp only [Vs] at h; subst h; simp [Vs]
 | n + 1, c :: cs, vs, h => by
   simp only [Vs] at h
   obtain ⟨v, r, e, h1, h2⟩ := h
   subst e
   simp only [List.take_succ_cons, Vs]
   exact ⟨v, _, rfl, h1, Vs_take n h2⟩
theorem Ze8 {w : World} {own : Nat → Prop} {ι : Zai} : ∀ {cs ds : List AV} {vs us : List Value}, Vs w own cs ι vs → Vs w own ds ι us → Vs w own (cs ++ ds) ι (vs ++ us)
 | [], _, _, _, h, k => by simp only [Vs] at h; subst h; simpa using k
 | c :: cs, _, _, _, h, k => by
   simp only [Vs] at h
   obtain ⟨v, r, e, h1, h2⟩ := h
   subst e
   simp only [List.cons_append, Vs]
   exact ⟨v, _, rfl, h1, Ze8 h2 k⟩
theorem Vc_drop {w : World} {own : Nat → Prop} {ι : Zai} : ∀ (n : Nat) {cs : List AV} {b o : Nat}, Vc w own cs ι b o → Vc w own (cs.drop n) ι b (o + n)
 | 0, _, _, _, h => by simpa using h
 | n + 1, [], _, _, _ => by simp [Vc]
 | n + 1, c :: cs, b, o, h => by
   simp only [Vc] at h
   have := Vc_drop n h.2
   simpa [Nat.add_assoc, Nat.add_comm 1 n] using this
theorem Vc_take {w : World} {own : Nat → Prop} {ι : Zai} : ∀ (n : Nat) {cs : List AV} {b o : Nat}, Vc w own cs ι b o → Vc w own (cs.take n) ι b o
 | 0, _, _, _, _ => by simp [Vc]
 | n + 1, [], _, _, _ => by simp [Vc]
 | n + 1, c :: cs, b, o, h => by
   simp only [Vc, List.take_succ_cons] at h ⊢
   exact ⟨h.1, Vc_take n h.2⟩
theorem Vc_read {w : World} {own : Nat → Prop} {ι : Zai} : ∀ {cs : List AV} {b o : Nat}, Vc w own cs ι b o →
  ∃ vs : List Value, vs.length = cs.length ∧ (∀ j v, vs[j]? = some v → w.cell? ⟨b, o + j, none⟩ = some v) ∧ Vs w own cs ι vs ∧ ∀ v ∈ vs, v.oneCell' = true
 | [], _, _, _ => ⟨[], rfl, by simp, by simp [Vs], by simp⟩
 | c :: cs, b, o, h => by
   simp only [Vc] at h
   obtain ⟨⟨v, e, h0, hv⟩, h2⟩ := h
   obtain ⟨vs, hl, hc, hs, h1⟩ := Vc_read h2
   refine ⟨v :: vs, by simp [hl], fun j u hj => ?_, by simp only [Vs]; exact ⟨v, vs, rfl, hv, hs⟩, fun u hu => (List.mem_cons.1 hu).elim (fun e => e ▸ h0) (h1 u)⟩
   cases j with
   | zero => simp at hj; subst hj; simpa using e
   | succ j => simp at hj; have := hc j u hj; simpa [Nat.add_assoc, Nat.add_comm 1 j] using this
theorem Vc_of_Vs {w : World} {own : Nat → Prop} {ι : Zai} : ∀ {cs : List AV} {vs : List Value} {b o : Nat}, Vs w own cs ι vs → (∀ j v, vs[j]? = some v → w.cell? ⟨b, o + j, none⟩ = some v) → (∀ v ∈ vs, v.oneCell' = true) → Vc w own cs ι b o
 | [], _, _, _, _, _, _ => by simp [Vc]
 | c :: cs, vs, b, o, h, k, hone => by
   simp only [Vs] at h
   obtain ⟨v, r, e, h1, h2⟩ := h
   subst e
   simp only [Vc]
   refine ⟨⟨v, by simpa using k 0 v (by simp), hone v (by simp), h1⟩, Vc_of_Vs h2 (fun j u hj => ?_) (fun u hu => hone u (by simp [hu]))⟩
   have := k (j + 1) u (by simpa using hj)
   simpa [Nat.add_assoc, Nat.add_comm 1 j] using this
theorem Vs_weak {w : World} {own : Nat → Prop} {ι : Zai} (xs : List AV) (vs : List Value) (h : Vs w own xs ι0 vs) : Vs w own xs ι vs :=
 Zdr ⟨Nat.le_refl _, fun _ _ _ => rfl, fun _ _ h => h⟩ xs vs (fun _ _ e => by cases e) h
theorem Vc_weak {w : World} {own : Nat → Prop} {ι : Zai} (xs : List AV) (b o : Nat) (h : Vc w own xs ι0 b o) : Vc w own xs ι b o :=
 Zc8 ⟨Nat.le_refl _, fun _ _ _ => rfl, fun _ _ h => h⟩ xs b o rfl (fun _ _ e => by cases e) h
theorem Zcn {w : World} {own : Nat → Prop} {ι : Zai} (imm : Bool) (xs : List AV) (b o : Nat) (h : Vc w own xs (bif imm then ι0 else ι) b o) : Vc w own xs ι b o := by
 cases imm with
 | true => exact Vc_weak xs b o h
 | false => exact h
theorem V_shaped {w : World} {own : Nat → Prop} {ι : Zai} {cs : List AV} {vs : List Value} (h : Vs w own cs ι vs) : V w own (Zeh true cs) ι (.agg vs.toArray) := by
 simp only [Zeh, cond_true, V]; exact ⟨vs, rfl, h⟩
theorem V_shaped1 {w : World} {own : Nat → Prop} {ι : Zai} {cs : List AV} {v : Value} (h : Vs w own cs ι [v]) : V w own (Zeh false cs) ι v := by
 match cs, h with
 | [], h => simp [Zeh, V]
 | [c], h => simp only [Vs] at h; obtain ⟨u, r, e, h1, _⟩ := h; cases e; simpa [Zeh] using h1
 | c :: d :: cs, h => simp [Zeh, V]
section
variable {P : Program} {T : Zbc}
theorem TI.Ok.isAgg {t : Nat} {ti : TI} {i : TypeInfo} {d : TypeDesc} {z : Value} (h : ti.Ok P t i d z) (w : World) : (isAgg t).run P w = .ok ti.kind.agg w := by
 have hk := h.kind
 simp only [Go.isAgg, Sem.run_bind, run_underlying h.und, Result.andThen_ok]
 cases e : ti.kind <;> cases d <;> simp only [e, TK.rel] at hk <;> first | rfl | exact hk.elim
theorem TI.Ok.sizeOf {t : Nat} {ti : TI} {i : TypeInfo} {d : TypeDesc} {z : Value} (h : ti.Ok P t i d z) (w : World) : (Go.sizeOf t).run P w = .ok ti.size w := by
 simp [Go.sizeOf, typeInfo, h.info, h.size]
theorem Ze1 {w : World} {own : Nat → Prop} {ι : Zai} {t : Nat} {ti : TI} {i : TypeInfo} {d : TypeDesc} {z : Value} (h : ti.Ok P t i d z)
  {cs : List AV} {b o : Nat} (hc : Vc w own cs ι b o) (hl : cs.length = ti.size) (hs : (ti.kind.agg || Nat.beq ti.size 1) = true) :
  ∃ v, (loadVar t ⟨b, o, none⟩).run P w = .ok v w ∧ V w own (Zeh ti.kind.agg cs) ι v := by
 obtain ⟨vs, hvl, hcell, hV, _⟩ := Vc_read hc
 cases ha : ti.kind.agg with
 | true =>
  refine ⟨.agg vs.toArray, ?_, V_shaped hV⟩
  have := run_loadCells_list (P := P) w ⟨b, o, none⟩ vs (fun j v hj => by rw [Zec]; exact hcell j v hj)
  simp only [loadVar, Sem.run_bind, h.isAgg w, Result.andThen_ok, ha, if_true, h.sizeOf w]
  rw [← hl, ← hvl, this]; rfl
 | false =>
  rw [ha] at hs
  have h1 : ti.size = 1 := Nat.eq_of_beq_eq_true (by simpa using hs)
  have : vs.length = 1 := by rw [hvl, hl, h1]
  match vs, this with
  | [v], _ =>
   refine ⟨v, ?_, V_shaped1 hV⟩
   have hv := hcell 0 v (by simp)
   simp only [loadVar, Sem.run_bind, h.isAgg w, Result.andThen_ok, ha]
   simp at hv
   simp [hv]
def upS (fresh : Id) (u : Up) (σ : ASt) : ASt := match u with
 | .none => σ
 | .alloc b => ⟨σ.tm, updH σ.h fresh (some b)⟩
 | .box cs => ⟨σ.tm, updH σ.h fresh (some (Zam cs))⟩
 | .bld sz n cs => ⟨σ.tm, updH σ.h fresh (some (bld sz n cs))⟩
 | .wr i imm sz n f st cs => ⟨σ.tm, updH σ.h i (some (.row imm sz n (updR f st cs)))⟩
 | .write i b => ⟨σ.tm, updH σ.h i (some b)⟩
 | .move i b => ⟨fun t => Zbj (kill i) (σ.tm t), updH (killH i σ.h) fresh (some b)⟩
 | .big dead ups => ⟨fun t => mapK dead (σ.tm t), bigH dead ups σ.h⟩
def trU (u : Up) (x : AV) : AV := match u with
 | .move i _ => Zbj (kill i) x
 | .big dead _ => mapK dead x
 | _ => x
def OpOk (P : Program) (_ : Nat) (X : Nat → Prop) (σ : ASt) (ι : Zai) (a : Act) (w : World) (o : Oper) (fresh : Id) (u : Up) (x : AV) : Prop :=
 ∃ r v w' ι', (execOp a.eval o).run P w = .ok r w' ∧ (r = .value v ∨ r = .skip ∧ v = undef) ∧
  Sim X (upS fresh u σ).h ι' w' ∧ (∀ y u', V w (Own X ι) y ι u' → V w' (Own X ι') (trU u y) ι' u') ∧ V w' (Own X ι') x ι' v ∧ Goes X ι ι' w w'
theorem OpOk.pure {n : Nat} {X : Nat → Prop} {σ : ASt} {ι : Zai} {a : Act} {w : World} (s : St n X σ ι a w) {o : Oper} {fresh : Id} {x : AV} (v : Value)
  (h : (execOp a.eval o).run P w = .ok (.value v) w) (hv : V w (Own X ι) x ι v) : OpOk P n X σ ι a w o fresh .none x :=
 ⟨.value v, v, w, ι, h, .inl rfl, s.sim, fun _ _ h => h, hv, Goes.refl X ι w⟩
def evLoad (T : Zbc) (σ : ASt) (t : Nat) (x : AV) : Option Ev :=
 match T t with
 | none => none
 | some ti => bif ti.kind.agg || Nat.beq ti.size 1 then match x with
  | .rp i sz st j => match σ.h i with
   | some (.row _ sz' n f) => bif Nat.beq sz sz' && Nat.ble (j + ti.size) sz then some ⟨some (st < n), Zeh ti.kind.agg (takeL ti.size (dropL j (f st))), .none, [i]⟩ else none
   | _ => none
  | .bp i j => match σ.h i with
   | some (.row _ sz n f) => bif Nat.ble (j + ti.size) sz && Nat.blt 0 n then some ⟨none, Zeh ti.kind.agg (takeL ti.size (dropL j (f 0))), .none, [i]⟩ else none
   | _ => none
  | .ip cs => bif Nat.ble ti.size cs.length then some ⟨none, Zeh ti.kind.agg (takeL ti.size cs), .none, []⟩ else none
  | _ => none
 else none
theorem evLoad_ok (hT : TOk P T) {n : Nat} {X : Nat → Prop} {σ : ASt} {ι : Zai} {a : Act} {w : World} (s : St n X σ ι a w) {o : Oper} {fresh : Id} {t : Nat} {x : Operand} {e : Ev}
  (ho : o.op = .load t x) (he : evLoad T σ t (σ.opv x) = some e) (hb : ∀ p, e.obl = some p → p) : OpOk P n X σ ι a w o fresh e.up e.val := by
 have hv := s.opv x
 unfold evLoad at he
 cases hti : T t with
 | none => rw [hti] at he; cases he
 | some ti =>
  obtain ⟨i, d, z, hok⟩ := hT t ti hti
  simp only [hti] at he
  cases hg : (ti.kind.agg || Nat.beq ti.size 1) with
  | false => rw [hg] at he; cases he
  | true =>
   simp only [hg, cond_true] at he
   cases hx : σ.opv x <;> simp only [hx] at he hv <;> try (cases he; done)
   case ip cs =>
    cases hl : Nat.ble ti.size cs.length with
    | false => rw [hl] at he; cases he
    | true =>
     rw [hl] at he; cases he
     simp only [V] at hv
     obtain ⟨b, o', e1, _, _, hc⟩ := hv
     have hc' := Vc_weak (ι := ι) _ _ _ (Vc_take ti.size hc)
     obtain ⟨v, hr, hV⟩ := Ze1 hok hc' (by rw [List.length_take]; have := Nat.le_of_ble_eq_true hl; omega) hg
     refine OpOk.pure s v ?_ (by rw [Zde]; exact hV)
     simp only [execOp, ho, Instr.loadAt, e1, Instr.sureAddr, Sem.run_bind, Sem.run_pure, Result.andThen_ok, hr]
   case bp id j =>
    cases hh : σ.h id with
    | none => simp [hh] at he
    | some blk =>
     cases blk with
     | map _ => simp [hh] at he
     | row imm sz m f =>
      simp only [hh] at he
      cases hl : (Nat.ble (j + ti.size) sz && Nat.blt 0 m) with
      | false => rw [hl] at he; cases he
      | true =>
       rw [hl] at he; cases he
       simp only [Bool.and_eq_true] at hl
       have h2 := Nat.le_of_ble_eq_true hl.1
       have hst : 0 < m := by simpa [Nat.blt_eq] using hl.2
       simp only [V] at hv
       cases hl : ι id with
       | none => simp [hl] at hv
       | some l =>
        cases l with
        | ghost => simp [hl] at hv
        | nil => simp [hl] at hv
        | «at» b c =>
         simp only [hl] at hv
         have hr := s.sim.rel id _ _ hh hl
         obtain ⟨arr, TT, _, _, _, h3⟩ := hr
         obtain ⟨h4, h5⟩ := h3 0 hst
         have hc' := Zcn imm _ _ _ (Vc_take ti.size (Vc_drop j h5))
         obtain ⟨v, hr, hV⟩ := Ze1 hok hc' (by rw [List.length_take, List.length_drop]; omega) hg
         refine OpOk.pure s v ?_ (by rw [Zde, Zc5]; exact hV)
         simp only [Nat.zero_mul, Nat.zero_add] at hr
         simp only [execOp, ho, Instr.loadAt, hv, Instr.sureAddr, Sem.run_bind, Sem.run_pure, Result.andThen_ok, hr]
   case rp id sz st j =>
    cases hh : σ.h id with
    | none => simp [hh] at he
    | some blk =>
     cases blk with
     | map _ => simp [hh] at he
     | row imm sz' m f =>
      simp only [hh] at he
      cases hl : (Nat.beq sz sz' && Nat.ble (j + ti.size) sz) with
      | false => rw [hl] at he; cases he
      | true =>
       rw [hl] at he; cases he
       simp only [Bool.and_eq_true] at hl
       have h1 := Nat.eq_of_beq_eq_true hl.1
       have h2 := Nat.le_of_ble_eq_true hl.2
       subst h1
       have hst : st < m := hb _ rfl
       simp only [V] at hv
       cases hl : ι id with
       | none => simp [hl] at hv
       | some l =>
        cases l with
        | ghost => simp [hl] at hv
        | nil => simp [hl] at hv
        | «at» b c =>
         simp only [hl] at hv
         have hr := s.sim.rel id _ _ hh hl
         obtain ⟨arr, TT, _, _, _, h3⟩ := hr
         obtain ⟨h4, h5⟩ := h3 st hst
         have hc' := Zcn imm _ _ _ (Vc_take ti.size (Vc_drop j h5))
         obtain ⟨v, hr, hV⟩ := Ze1 hok hc' (by rw [List.length_take, List.length_drop]; omega) hg
         refine OpOk.pure s v ?_ (by rw [Zde, Zc5]; exact hV)
         simp only [execOp, ho, Instr.loadAt, hv, Instr.sureAddr, Sem.run_bind, Sem.run_pure, Result.andThen_ok, hr]
def evField (T : Zbc) (s : Nat) (x : AV) (k : Nat) : Option Ev :=
 match T s with
 | some ⟨_, _, .struct fs, _⟩ => match nth fs k with
  | some (off, t) => match T t with
   | some ti => bif ti.kind.agg || Nat.beq ti.size 1 then match x with
    | .agg cs => bif Nat.ble (off + ti.size) cs.length then Ev.pure (Zeh ti.kind.agg (takeL ti.size (dropL off cs))) else none
    | _ => none
    else none
   | none => none
  | none => none
 | _ => none
def evFieldAddr (T : Zbc) (s : Nat) (x : AV) (k : Nat) : Option Ev :=
 match T s with
 | some ⟨_, _, .struct fs, _⟩ => match nth fs k with
  | some (off, t) => match T t with
   | some ti => bif Nat.beq ti.size 0 then none else match x with
    | .bp i j => Ev.pure (.bp i (j + off))
    | .rp i sz st j => Ev.pure (.rp i sz st (j + off))
    | .ip cs => Ev.pure (.ip (dropL off cs))
    | _ => none
   | none => none
  | none => none
 | _ => none
theorem evFieldAddr_ok (hT : TOk P T) {n : Nat} {X : Nat → Prop} {σ : ASt} {ι : Zai} {a : Act} {w : World} (s : St n X σ ι a w) {o : Oper} {fresh : Id} {t k : Nat} {x : Operand} {e : Ev}
  (ho : o.op = .fieldAddr t x k) (he : evFieldAddr T t (σ.opv x) k = some e) : OpOk P n X σ ι a w o fresh e.up e.val := by
 have hv := s.opv x
 unfold evFieldAddr at he
 split at he
 ·rename_i _ _ fs _ ht
  obtain ⟨i, d, z, hok⟩ := hT t _ ht
  split at he
  ·rename_i off u hn
   rw [nth_eq] at hn
   split at he
   ·rename_i ti hti
    obtain ⟨i', d', z', hok'⟩ := hT u _ hti
    cases h0 : Nat.beq ti.size 0 with
    | true => rw [h0] at he; cases he
    | false =>
     rw [h0] at he
     simp only [cond_false] at he
     have hk := hok.kind
     cases d <;> simp only [TK.rel] at hk
     rename_i gs
     subst hk
     have hg : ∃ g, gs[k]? = some g ∧ g.offset = off ∧ g.type = u := by
      rw [List.getElem?_map] at hn
      cases hq : gs.toList[k]? with
      | none => rw [hq] at hn; cases hn
      | some g => rw [hq] at hn; simp at hn; exact ⟨g, by simpa using hq, hn.1, hn.2⟩
     obtain ⟨g, hg1, hg2, hg3⟩ := hg
     have hne : ti.size ≠ 0 := fun e => by rw [e] at h0; cases h0
     have run : ∀ b o', a.eval x = .pointer (some ⟨b, o', none⟩) → (execOp a.eval o).run P w = .ok (.value (.pointer (some ⟨b, o' + off, none⟩))) w := by
      intro b o' e
      subst hg3
      have hsz := hok'.sizeOf w
      simp only [execOp, ho, Instr.fieldAt, e, Instr.sureAddr, Sem.run_bind, Sem.run_pure, Result.andThen_ok, run_underlying hok.und, hg1, fieldPlace, hsz, if_neg hne, Zec, hg2]
     cases hx : σ.opv x <;> simp only [hx] at he hv <;> try (cases he; done)
     case ip cs =>
      cases he
      simp only [V] at hv
      obtain ⟨b, o', e1, h1, h2, hc⟩ := hv
      refine OpOk.pure s _ (run b o' e1) ?_
      simp only [V]
      exact ⟨b, o' + off, rfl, h1, h2, by rw [Zc5]; exact Vc_drop off hc⟩
     case bp id j =>
      cases he
      simp only [V] at hv
      cases hl : ι id with
      | none => simp [hl] at hv
      | some l =>
       cases l with
       | ghost => simp [hl] at hv
       | nil => simp [hl] at hv
       | «at» b c =>
        simp only [hl] at hv
        refine OpOk.pure s _ (run b _ hv) ?_
        simp only [V, hl]
     case rp id sz st j =>
      cases he
      simp only [V] at hv
      cases hl : ι id with
      | none => simp [hl] at hv
      | some l =>
       cases l with
       | ghost => simp [hl] at hv
       | nil => simp [hl] at hv
       | «at» b c =>
        simp only [hl] at hv
        refine OpOk.pure s _ (run b _ hv) ?_
        simp only [V, hl, Nat.add_assoc]
   ·cases he
  ·cases he
 ·cases he
theorem part_ok {w : World} {own : Nat → Prop} {ι : Zai} {t : Nat} {ti : TI} {i : TypeInfo} {d : TypeDesc} {z : Value} (h : ti.Ok P t i d z)
  {cs : List AV} {vs : List Value} {off : Nat} (hc : Vs w own cs ι vs) (hl : off + ti.size ≤ cs.length) (hs : (ti.kind.agg || Nat.beq ti.size 1) = true) :
  ∃ v, (part t vs.toArray off).run P w = .ok v w ∧ V w own (Zeh ti.kind.agg (takeL ti.size (dropL off cs))) ι v := by
 have hV := Vs_take ti.size (Vs_drop off hc)
 have hlen := Zby hc
 rw [Zde, Zc5]
 cases ha : ti.kind.agg with
 | true =>
  refine ⟨.agg (vs.toArray.extract off (off + ti.size)), ?_, ?_⟩
  ·simp only [part, Sem.run_bind, h.isAgg w, Result.andThen_ok, ha, if_true, h.sizeOf w, Sem.run_pure]
  ·have := V_shaped hV
   rw [show vs.toArray.extract off (off + ti.size) = ((vs.drop off).take ti.size).toArray from by
    apply Array.ext'
    simp [List.extract_eq_take_drop]]
   exact this
 | false =>
  rw [ha] at hs
  have h1 : ti.size = 1 := Nat.eq_of_beq_eq_true (by simpa using hs)
  have hlt : off < vs.length := by omega
  refine ⟨vs[off], ?_, ?_⟩
  ·simp [part, Sem.run_bind, h.isAgg w, ha, hlt]
  ·rw [h1] at hV ⊢
   have e : (vs.drop off).take 1 = [vs[off]] := by
    rw [List.drop_eq_getElem_cons hlt]; rfl
   rw [e] at hV
   exact V_shaped1 hV
theorem evField_ok (hT : TOk P T) {n : Nat} {X : Nat → Prop} {σ : ASt} {ι : Zai} {a : Act} {w : World} (s : St n X σ ι a w) {o : Oper} {fresh : Id} {t k : Nat} {x : Operand} {e : Ev}
  (ho : o.op = .field t x k) (he : evField T t (σ.opv x) k = some e) : OpOk P n X σ ι a w o fresh e.up e.val := by
 have hv := s.opv x
 unfold evField at he
 split at he
 ·rename_i _ _ fs _ ht
  obtain ⟨i, d, z, hok⟩ := hT t _ ht
  split at he
  ·rename_i off u hn
   rw [nth_eq] at hn
   split at he
   ·rename_i ti hti
    obtain ⟨i', d', z', hok'⟩ := hT u _ hti
    cases h0 : (ti.kind.agg || Nat.beq ti.size 1) with
    | false => rw [h0] at he; cases he
    | true =>
     rw [h0] at he
     simp only [cond_true] at he
     have hk := hok.kind
     cases d <;> simp only [TK.rel] at hk
     rename_i gs
     subst hk
     have hg : ∃ g, gs[k]? = some g ∧ g.offset = off ∧ g.type = u := by
      rw [List.getElem?_map] at hn
      cases hq : gs.toList[k]? with
      | none => rw [hq] at hn; cases hn
      | some g => rw [hq] at hn; simp at hn; exact ⟨g, by simpa using hq, hn.1, hn.2⟩
     obtain ⟨g, hg1, hg2, hg3⟩ := hg
     cases hx : σ.opv x <;> simp only [hx] at he hv <;> try (cases he; done)
     case agg cs =>
      cases hl : Nat.ble (off + ti.size) cs.length with
      | false => rw [hl] at he; cases he
      | true =>
       rw [hl] at he; cases he
       simp only [V] at hv
       obtain ⟨vs, e1, hV⟩ := hv
       obtain ⟨v, hr, hV'⟩ := part_ok hok' hV (Nat.le_of_ble_eq_true hl) h0
       refine OpOk.pure s v ?_ hV'
       subst hg3; subst hg2
       simp only [execOp, ho, Instr.field, e1, asAgg, Sem.run_bind, Sem.run_pure, Result.andThen_ok, run_underlying hok.und, hg1, hr]
   ·cases he
  ·cases he
 ·cases he
end
section
variable {P : Program} {T : Zbc} {n : Nat} {X : Nat → Prop} {σ : ASt} {ι : Zai} {a : Act} {w : World}
def evIndexAddr (T : Zbc) (t : Nat) (x ix : AV) : Option Ev :=
 match ix with
 | .int _ i => match T t with
  | some ⟨_, _, .slice el, _⟩ => match T el with
   | some te => match x with
    | .sl sz m f => bif Nat.beq te.size sz then some ⟨some (0 ≤ i ∧ i < (m : Int)), .ip (f i.toNat), .none, []⟩ else none
    | .rs id sz st len => bif Nat.beq te.size sz then some ⟨some (0 ≤ i ∧ i < (len : Int)), .rp id sz (st + i.toNat) 0, .none, []⟩ else none
    | _ => none
   | none => none
  | some ⟨_, _, .array m el, _⟩ => match T el with
   | some te => match x with
    | .bp id j => some ⟨some (0 ≤ i ∧ i < (m : Int)), .bp id (j + i.toNat * te.size), .none, []⟩
    | .rp id sz st j => some ⟨some (0 ≤ i ∧ i < (m : Int)), .rp id sz st (j + i.toNat * te.size), .none, []⟩
    | .ip cs => some ⟨some (0 ≤ i ∧ i < (m : Int)), .ip (dropL (i.toNat * te.size) cs), .none, []⟩
    | _ => none
   | none => none
  | _ => none
 | _ => none
theorem evIndexAddr_ok (hT : TOk P T) (s : St n X σ ι a w) {o : Oper} {fresh : Id} {t : Nat} {x ix : Operand} {e : Ev}
  (ho : o.op = .indexAddr t x ix) (he : evIndexAddr T t (σ.opv x) (σ.opv ix) = some e) (hb : ∀ p, e.obl = some p → p) : OpOk P n X σ ι a w o fresh e.up e.val := by
 have hv := s.opv x
 have hi := s.opv ix
 unfold evIndexAddr at he
 cases hix : σ.opv ix <;> simp only [hix] at he hi <;> try (cases he; done)
 rename_i k i
 simp only [V] at hi
 obtain ⟨hi, _, _⟩ := hi
 split at he
 ·rename_i _ _ el _ ht
  obtain ⟨i1, d, z, hok⟩ := hT t _ ht
  have hk := hok.kind
  cases d <;> simp only [TK.rel] at hk
  rename_i el2
  cases hk
  split at he
  ·rename_i te hte
   obtain ⟨i', d', z', hok'⟩ := hT el _ hte
   have run : ∀ b o' len c, a.eval x = .slice (some ⟨b, o', none⟩) len c → 0 ≤ i → i < (len : Int) →
     (execOp a.eval o).run P w = .ok (.value (.pointer (some ⟨b, o' + i.toNat * te.size, none⟩))) w := by
    intro b o' len c e h1 h2
    have hsz := hok'.sizeOf w
    simp only [execOp, ho, Instr.indexAt, e, hi, asIntOf, Sem.run_bind, Sem.run_pure, Result.andThen_ok, run_underlying hok.und, hsz, Sem.run_ite, h1, h2, and_self, if_true, Zec]
   cases hx : σ.opv x <;> simp only [hx] at he hv <;> try (cases he; done)
   case sl sz m f =>
    cases hq : Nat.beq te.size sz with
    | false => rw [hq] at he; cases he
    | true =>
     rw [hq] at he; cases he
     have hq := Nat.eq_of_beq_eq_true hq
     obtain ⟨h0, h1⟩ := hb _ rfl
     simp only [V] at hv
     obtain ⟨p, c, e1, _, _, h4⟩ := hv
     rcases h4 with h4 | ⟨b, o', e2, h5, h6, h7⟩
     ·subst h4; simp at h1; omega
     ·subst e2
      have hlt : i.toNat < m := by omega
      refine OpOk.pure s _ (run b o' _ c e1 h0 h1) ?_
      simp only [V]
      exact ⟨b, _, rfl, h5, h6, by rw [hq]; exact (h7 i.toNat hlt).2⟩
   case rs id sz st len =>
    cases hq : Nat.beq te.size sz with
    | false => rw [hq] at he; cases he
    | true =>
     rw [hq] at he; cases he
     have hq := Nat.eq_of_beq_eq_true hq
     obtain ⟨h0, h1⟩ := hb _ rfl
     simp only [V] at hv
     cases hl : ι id with
     | none => simp [hl] at hv
     | some l =>
      cases l with
      | ghost => simp [hl] at hv
      | nil => simp only [hl] at hv; omega
      | «at» b c =>
       simp only [hl] at hv
       obtain ⟨p, e1, h2, h3, h4⟩ := hv
       rcases h4 with h4 | h4
       ·omega
       ·subst h4
        refine OpOk.pure s _ (run b _ _ _ e1 h0 h1) ?_
        simp only [V, hl, hq, Nat.add_zero]
        rw [Nat.add_mul]
  ·cases he
 ·rename_i _ _ m el _ ht
  obtain ⟨i1, d, z, hok⟩ := hT t _ ht
  have hk := hok.kind
  cases d <;> simp only [TK.rel] at hk
  rename_i m' el'
  obtain ⟨rfl, rfl⟩ := hk
  split at he
  ·rename_i te hte
   obtain ⟨i', d', z', hok'⟩ := hT el _ hte
   have run : ∀ b o', a.eval x = .pointer (some ⟨b, o', none⟩) → 0 ≤ i → i < (m : Int) →
     (execOp a.eval o).run P w = .ok (.value (.pointer (some ⟨b, o' + i.toNat * te.size, none⟩))) w := by
    intro b o' e h1 h2
    have hsz := hok'.sizeOf w
    simp only [execOp, ho, Instr.indexAt, e, hi, asIntOf, Instr.sureAddr, Sem.run_bind, Sem.run_pure, Result.andThen_ok, run_underlying hok.und, hsz, Sem.run_ite, h1, h2, and_self, if_true, Zec]
   cases hx : σ.opv x <;> simp only [hx] at he hv <;> try (cases he; done)
   case ip cs =>
    cases he
    obtain ⟨h0, h1⟩ := hb _ rfl
    simp only [V] at hv
    obtain ⟨b, o', e1, h1', h2, hc⟩ := hv
    refine OpOk.pure s _ (run b o' e1 h0 h1) ?_
    simp only [V]
    exact ⟨b, _, rfl, h1', h2, by rw [Zc5]; exact Vc_drop _ hc⟩
   case bp id j =>
    cases he
    obtain ⟨h0, h1⟩ := hb _ rfl
    simp only [V] at hv
    cases hl : ι id with
    | none => simp [hl] at hv
    | some l =>
     cases l with
     | ghost => simp [hl] at hv
     | nil => simp [hl] at hv
     | «at» b c =>
      simp only [hl] at hv
      refine OpOk.pure s _ (run b _ hv h0 h1) ?_
      simp only [V, hl]
   case rp id sz st j =>
    cases he
    obtain ⟨h0, h1⟩ := hb _ rfl
    simp only [V] at hv
    cases hl : ι id with
    | none => simp [hl] at hv
    | some l =>
     cases l with
     | ghost => simp [hl] at hv
     | nil => simp [hl] at hv
     | «at» b c =>
      simp only [hl] at hv
      refine OpOk.pure s _ (run b _ hv h0 h1) ?_
      simp only [V, hl, Nat.add_assoc]
  ·cases he
 ·cases he
def evIndex (T : Zbc) (t : Nat) (x ix : AV) : Option Ev :=
 match ix with
 | .int _ i => match T t with
  | some ⟨_, _, .string, _⟩ => match x with
   | .str b => some ⟨some (0 ≤ i ∧ i < (b.size : Int)), .int .u8 ((b.get! i.toNat).toNat : Int), .none, []⟩
   | _ => none
  | some ⟨_, _, .array m el, _⟩ => match T el with
   | some te => bif te.kind.agg || Nat.beq te.size 1 then match x with
    | .agg cs => bif Nat.beq cs.length (m * te.size) then some ⟨some (0 ≤ i ∧ i < (m : Int)), Zeh te.kind.agg (takeL te.size (dropL (i.toNat * te.size) cs)), .none, []⟩ else none
    | _ => none
    else none
   | none => none
  | _ => none
 | _ => none
theorem evIndex_ok (hT : TOk P T) (s : St n X σ ι a w) {o : Oper} {fresh : Id} {t : Nat} {x ix : Operand} {e : Ev}
  (ho : o.op = .index t x ix) (he : evIndex T t (σ.opv x) (σ.opv ix) = some e) (hb : ∀ p, e.obl = some p → p) : OpOk P n X σ ι a w o fresh e.up e.val := by
 have hv := s.opv x
 have hi := s.opv ix
 unfold evIndex at he
 cases hix : σ.opv ix <;> simp only [hix] at he hi <;> try (cases he; done)
 rename_i k i
 simp only [V] at hi
 obtain ⟨hi, _, _⟩ := hi
 split at he
 ·rename_i _ _ _ ht
  obtain ⟨i1, d, z, hok⟩ := hT t _ ht
  have hk := hok.kind
  cases d <;> simp only [TK.rel] at hk
  cases hx : σ.opv x <;> simp only [hx] at he hv <;> try (cases he; done)
  cases he
  rename_i b
  obtain ⟨h0, h1⟩ := hb _ rfl
  simp only [V] at hv
  have hlt : i.toNat < b.size := by omega
  have hg : b.get! i.toNat = b[i.toNat] := by
   simp [ByteArray.get!, getElem!_pos, hlt]; rfl
  refine OpOk.pure s (.int .u8 (b[i.toNat].toNat : Int)) ?_ ?_
  ·simp [execOp, ho, Instr.index, hv.1, hi, asIntOf, run_underlying hok.und, h0, hlt]
  ·simp only [V, hg]
   refine ⟨trivial, by simp [IntKind.min, IntKind.signed], ?_⟩
   have := b[i.toNat].toNat_lt
   simp [IntKind.max, IntKind.signed, IntKind.bits]; omega
 ·rename_i _ _ m el _ ht
  obtain ⟨i1, d, z, hok⟩ := hT t _ ht
  have hk := hok.kind
  cases d <;> simp only [TK.rel] at hk
  rename_i m' el'
  obtain ⟨rfl, rfl⟩ := hk
  split at he
  ·rename_i te hte
   obtain ⟨i', d', z', hok'⟩ := hT el _ hte
   cases h0 : (te.kind.agg || Nat.beq te.size 1) with
   | false => rw [h0] at he; cases he
   | true =>
    rw [h0] at he
    simp only [cond_true] at he
    cases hx : σ.opv x <;> simp only [hx] at he hv <;> try (cases he; done)
    rename_i cs
    cases hq : Nat.beq cs.length (m * te.size) with
    | false => rw [hq] at he; cases he
    | true =>
     rw [hq] at he; cases he
     have hq := Nat.eq_of_beq_eq_true hq
     obtain ⟨h1, h2⟩ := hb _ rfl
     simp only [V] at hv
     obtain ⟨vs, e1, hV⟩ := hv
     have hlt : i.toNat < m := by omega
     have hle : i.toNat * te.size + te.size ≤ cs.length := by
      rw [hq, ← Nat.succ_mul]; exact Nat.mul_le_mul_right _ hlt
     obtain ⟨v, hr, hV'⟩ := part_ok hok' hV hle h0
     refine OpOk.pure s v ?_ hV'
     have hsz := hok'.sizeOf w
     simp only [execOp, ho, Instr.index, e1, hi, asIntOf, Sem.run_bind, Sem.run_pure, Result.andThen_ok, run_underlying hok.und, Sem.run_ite, h1, h2, and_self, if_true, hsz, hr]
  ·cases he
 ·cases he
theorem Zdc (k : IntKind) (x : Int) : k.min ≤ k.wrap x ∧ k.wrap x ≤ k.max := by
 cases k <;> simp [IntKind.min, IntKind.max, IntKind.wrap, IntKind.signed, IntKind.bits] <;> (try split) <;> omega
def bitsI (op : BinOp) (k : IntKind) (x y : Int) : Int := match op with
 | .and => k.wrap (BitVec.ofInt k.bits x &&& BitVec.ofInt k.bits y).toNat
 | .or => k.wrap (BitVec.ofInt k.bits x ||| BitVec.ofInt k.bits y).toNat
 | .xor => k.wrap (BitVec.ofInt k.bits x ^^^ BitVec.ofInt k.bits y).toNat
 | _ => 0
def evShift (op : BinOp) (k : IntKind) (p q : Int) : Option Ev := match op with
 | .shl => some ⟨some (0 ≤ q), .int k (k.wrap (p * 2 ^ (min q.toNat k.bits))), .none, []⟩
 | .shr => some ⟨some (0 ≤ q), .int k (p.fdiv (2 ^ (min q.toNat k.bits))), .none, []⟩
 | _ => none
theorem fdiv_range {k : IntKind} {p : Int} (h : k.min ≤ p ∧ p ≤ k.max) (n : Nat) : k.min ≤ p.fdiv (2 ^ n) ∧ p.fdiv (2 ^ n) ≤ k.max := by
 have hb : (1 : Int) ≤ 2 ^ n := by
  have := Nat.one_le_two_pow (n := n)
  exact_mod_cast this
 generalize (2 : Int) ^ n = b at hb
 rw [Int.fdiv_eq_ediv_of_nonneg _ (by omega)]
 rcases Int.le_total 0 p with h0 | h0
 ·have h1 := Int.ediv_nonneg h0 (show (0 : Int) ≤ b by omega)
  have h2 := Int.ediv_le_self b h0
  have hm : k.min ≤ 0 := by cases k <;> simp [IntKind.min, IntKind.signed, IntKind.bits]
  omega
 ·have h1 : p ≤ p / b := by
   refine (Int.le_ediv_iff_mul_le (by omega)).2 ?_
   have := Int.mul_le_mul_of_nonpos_left (c := 1) (b := b) (a := p) h0 (by omega)
   omega
  have h2 : p / b ≤ 0 := by
   have := Int.ediv_le_ediv (c := b) (by omega) h0
   simpa using this
  have hm : 0 ≤ k.max := by cases k <;> simp [IntKind.max, IntKind.signed, IntKind.bits]
  omega
def evBin (op : BinOp) (x y : AV) : Option Ev :=
 match x, y with
 | .int k p, .int k' q => bif kEq k k' then match op with
  | .and => Ev.pure (.int k (bitsI .and k p q))
  | .or => Ev.pure (.int k (bitsI .or k p q))
  | .xor => Ev.pure (.int k (bitsI .xor k p q))
  | .shl => evShift .shl k p q
  | .shr => evShift .shr k p q
  | .add => Ev.pure (.int k (k.wrap (p + q)))
  | .sub => Ev.pure (.int k (k.wrap (p - q)))
  | .mul => Ev.pure (.int k (k.wrap (p * q)))
  | .quo => some ⟨some (q ≠ 0), .int k (k.wrap (p.tdiv q)), .none, []⟩
  | .rem => some ⟨some (q ≠ 0), .int k (k.wrap (p.tmod q)), .none, []⟩
  | .eql => Ev.pure (.bool (decide (p = q)))
  | .neq => Ev.pure (.bool (!decide (p = q)))
  | .lss => Ev.pure (.bool (decide (p < q)))
  | .leq => Ev.pure (.bool (decide (p ≤ q)))
  | .gtr => Ev.pure (.bool (decide (q < p)))
  | .geq => Ev.pure (.bool (decide (q ≤ p)))
  | _ => none
  else evShift op k p q
 | .str p, .str q => match op with
  | .add => some ⟨some (p.size + q.size ≤ mL), .str (p ++ q), .none, []⟩
  | .eql => Ev.pure (.bool (decide (p = q)))
  | .neq => Ev.pure (.bool (!decide (p = q)))
  | _ => none
 | _, _ => none
theorem tmod_wrap {k : IntKind} {p q : Int} (h1 : k.min ≤ p ∧ p ≤ k.max) (_ : k.min ≤ q ∧ q ≤ k.max) (_ : q ≠ 0) : k.wrap (p.tmod q) = p.tmod q := by
 have ha : (p.tmod q).natAbs ≤ p.natAbs := by
  rw [Int.natAbs_tmod]; exact Nat.mod_le _ _
 have hs : 0 ≤ p → 0 ≤ p.tmod q := fun h => Int.tmod_nonneg q h
 have hn : p ≤ 0 → p.tmod q ≤ 0 := fun h => by
  have := Int.tmod_nonneg q (a := -p) (by omega)
  rw [Int.neg_tmod] at this; omega
 have : k.min ≤ p.tmod q ∧ p.tmod q ≤ k.max := by
  rcases Int.le_total 0 p with h | h
  ·have := hs h
   have hm : k.min ≤ 0 := by cases k <;> simp [IntKind.min, IntKind.signed, IntKind.bits]
   omega
  ·have := hn h
   have hm : 0 ≤ k.max := by cases k <;> simp [IntKind.max, IntKind.signed, IntKind.bits]
   omega
 generalize p.tmod q = r at this
 clear ha hs hn
 cases k <;> simp [IntKind.min, IntKind.max, IntKind.wrap, IntKind.signed, IntKind.bits] at this ⊢ <;> (try split) <;> omega
theorem bytes_eq_iff {p q : ByteArray} : (p.toList == q.toList) = decide (p = q) := by
 rw [Bool.eq_iff_iff]
 simp only [beq_iff_eq, decide_eq_true_eq]
 constructor
 ·intro h
  have e1 : p.data.toList = q.data.toList := by simpa [ByteArray.toList_eq] using h
  cases p; cases q; simp at e1; simp [e1]
 ·intro h; rw [h]
theorem eqGuard_int (op : BinOp) (t : TypeId) (x y : Operand) (k : IntKind) (p : Int) (q : Value) (w : World) : (eqGuard op t x y (.int k p) q).run P w = .ok () w := by
 cases op <;> simp [eqGuard]
theorem eqGuard_str (op : BinOp) (t : TypeId) (x y : Operand) (p : ByteArray) (q : Value) (w : World) : (eqGuard op t x y (.string p) q).run P w = .ok () w := by
 cases op <;> simp [eqGuard]
theorem eqGuard_bool (op : BinOp) (t : TypeId) (x y : Operand) (p : Bool) (q : Value) (w : World) : (eqGuard op t x y (.bool p) q).run P w = .ok () w := by
 cases op <;> simp [eqGuard]
theorem Zd9 (op : BinOp) (t : TypeId) (x y : Operand) (p : Option Addr) (l c : Nat) (q : Value) (w : World) : (eqGuard op t x y (.slice p l c) q).run P w = .ok () w := by
 cases op <;> simp [eqGuard]
theorem evBin_ok (s : St n X σ ι a w) {o : Oper} {fresh : Id} {t t' : Nat} {op : BinOp} {x y : Operand} {e : Ev}
  (ho : o.op = .binOp op t x y t') (he : evBin op (σ.opv x) (σ.opv y) = some e) (hb : ∀ p, e.obl = some p → p) : OpOk P n X σ ι a w o fresh e.up e.val := by
 have hx := s.opv x
 have hy := s.opv y
 unfold evBin at he
 split at he
 ·rename_i k p k' q e1 e2
  rw [e1] at hx; rw [e2] at hy
  simp only [V] at hx hy
  obtain ⟨hx, hxr⟩ := hx
  obtain ⟨hy, hyr⟩ := hy
  have runS : ∀ v, (op = .shl ∨ op = .shr) → (Op.shift op k p k' q).run P w = .ok v w → (execOp a.eval o).run P w = .ok (.value v) w := by
   intro v hs h
   have h2 : (binOp op t (.int k p) (.int k' q)).run P w = .ok v w := by
    rcases hs with rfl | rfl <;> simpa [binOp] using h
   simp only [execOp, ho, hx, hy, Sem.run_bind, eqGuard_int, Result.andThen_ok, h2, Sem.run_pure]
  have shift : evShift op k p q = some e → OpOk P n X σ ι a w o fresh e.up e.val := by
   intro he
   cases op <;> simp only [evShift] at he <;> try (cases he; done)
   case shl =>
    cases he
    have h0 : 0 ≤ q := hb _ rfl
    exact OpOk.pure s _ (runS _ (.inl rfl) (by simp [Op.shift, show ¬ q < 0 by omega]; rfl)) (by simp only [V]; exact ⟨trivial, Zdc _ _⟩)
   case shr =>
    cases he
    have h0 : 0 ≤ q := hb _ rfl
    exact OpOk.pure s _ (runS _ (.inr rfl) (by simp [Op.shift, show ¬ q < 0 by omega]; rfl)) (by simp only [V]; exact ⟨trivial, fdiv_range hxr _⟩)
  cases hk : kEq k k' with
  | false => rw [hk] at he; exact shift he
  | true =>
   rw [hk] at he
   simp only [cond_true] at he
   have hk := Zd1.1 hk
   subst hk
   have run : ∀ v, (binOp op t (.int k p) (.int k q)).run P w = .ok v w → (execOp a.eval o).run P w = .ok (.value v) w := by
    intro v h
    simp only [execOp, ho, hx, hy, Sem.run_bind, eqGuard_int, Result.andThen_ok, h, Sem.run_pure]
   cases op <;> simp only [Ev.pure] at he <;> try (cases he; done)
   case shl => exact shift he
   case shr => exact shift he
   case and => cases he; exact OpOk.pure s _ (run (.int k (bitsI .and k p q)) (by simp [binOp, Op.intBits, bitsI])) (by simp only [V, bitsI]; exact ⟨trivial, Zdc _ _⟩)
   case or => cases he; exact OpOk.pure s _ (run (.int k (bitsI .or k p q)) (by simp [binOp, Op.intBits, bitsI])) (by simp only [V, bitsI]; exact ⟨trivial, Zdc _ _⟩)
   case xor => cases he; exact OpOk.pure s _ (run (.int k (bitsI .xor k p q)) (by simp [binOp, Op.intBits, bitsI])) (by simp only [V, bitsI]; exact ⟨trivial, Zdc _ _⟩)
   case add => cases he; exact OpOk.pure s _ (run _ (by rw [binOp_add]; rfl)) (by simp only [V]; exact ⟨trivial, Zdc _ _⟩)
   case sub => cases he; exact OpOk.pure s _ (run _ (by rw [binOp_sub]; rfl)) (by simp only [V]; exact ⟨trivial, Zdc _ _⟩)
   case mul => cases he; exact OpOk.pure s _ (run _ (by rw [binOp_mul]; rfl)) (by simp only [V]; exact ⟨trivial, Zdc _ _⟩)
   case quo =>
    cases he
    have h0 : q ≠ 0 := hb _ rfl
    exact OpOk.pure s _ (run (.int k (k.wrap (p.tdiv q))) (by rw [binOp_quo]; simp [Op.intDiv, h0])) (by simp only [V]; exact ⟨trivial, Zdc _ _⟩)
   case rem =>
    cases he
    have h0 : q ≠ 0 := hb _ rfl
    exact OpOk.pure s _ (run (.int k (p.tmod q)) (by rw [binOp_rem]; simp [Op.intDiv, h0])) (by simp only [V]; exact ⟨by rw [tmod_wrap hxr hyr h0], Zdc _ _⟩)
   case eql => cases he; exact OpOk.pure s _ (run _ (by rw [binOp_eql]; rfl)) (by simp only [V]; congr 1)
   case neq => cases he; exact OpOk.pure s _ (run _ (by rw [binOp_neq]; rfl)) (by simp only [V]; congr 1)
   case lss => cases he; exact OpOk.pure s _ (run _ (by rw [binOp_lss]; rfl)) (by simp only [V])
   case leq => cases he; exact OpOk.pure s _ (run _ (by rw [binOp_leq]; rfl)) (by simp only [V])
   case gtr => cases he; exact OpOk.pure s _ (run _ (by rw [binOp_gtr]; rfl)) (by simp only [V])
   case geq => cases he; exact OpOk.pure s _ (run _ (by rw [binOp_geq]; rfl)) (by simp only [V])
 ·rename_i p q e1 e2
  rw [e1] at hx; rw [e2] at hy
  simp only [V] at hx hy
  have run : ∀ v, (binOp op t (.string p) (.string q)).run P w = .ok v w → (execOp a.eval o).run P w = .ok (.value v) w := by
   intro v h
   simp only [execOp, ho, hx.1, hy.1, Sem.run_bind, eqGuard_str, Result.andThen_ok, h, Sem.run_pure]
  cases op <;> simp only [Ev.pure] at he <;> try (cases he; done)
  case add =>
   cases he
   have h0 : p.size + q.size ≤ mL := hb _ rfl
   refine OpOk.pure s _ (run (.string (p ++ q)) ?_) (by simp only [V]; exact ⟨trivial, by rw [ByteArray.size_append]; exact h0⟩)
   have : (p.size : Int) + (q.size : Int) ≤ IntKind.i64.max := by
    simp [IntKind.max, IntKind.signed, IntKind.bits]; unfold mL at h0; omega
   simp [binOp, Op.stringOp]
   simp [IntKind.max, IntKind.signed, IntKind.bits] at this
   omega
  case eql => cases he; exact OpOk.pure s _ (run (.bool (p.toList == q.toList)) (by simp [binOp, Op.stringOp])) (by simp only [V]; rw [bytes_eq_iff])
  case neq => cases he; exact OpOk.pure s _ (run (.bool (!(p.toList == q.toList))) (by simp [binOp, Op.stringOp])) (by simp only [V]; rw [bytes_eq_iff])
 ·cases he
end
section
variable {P : Program} {T : Zbc} {n : Nat} {X : Nat → Prop} {σ : ASt} {ι : Zai} {a : Act} {w : World}
theorem evMove_ok (s : St n X σ ι a w) {o : Oper} {fresh : Id} {x : Operand} (ho : o.op = .move x ∨ o.op = .assign x) : OpOk P n X σ ι a w o fresh .none (σ.opv x) := by
 refine OpOk.pure s (a.eval x) ?_ (s.opv x)
 rcases ho with ho | ho <;> simp [execOp, ho]
def pickAV (b : Bool) (x y : AV) : AV := match x, y with
 | .bool p, .bool q => .bool (bif b then p else q)
 | .int k p, .int k' q => bif kEq k k' then .int k (bif b then p else q) else (bif b then x else y)
 | _, _ => bif b then x else y
theorem pickAV_V {own : Nat → Prop} (b : Bool) {x y : AV} {v u : Value} (h1 : b = true → V w own x ι v) (h2 : b = false → V w own y ι u) : V w own (pickAV b x y) ι (if b then v else u) := by
 unfold pickAV
 split
 ·cases b with
  | true => simpa [V] using h1 rfl
  | false => simpa [V] using h2 rfl
 ·rename_i k p k' q
  cases hk : kEq k k' with
  | true =>
   have := Zd1.1 hk; subst this
   cases b with
   | true => simpa [V] using h1 rfl
   | false => simpa [V] using h2 rfl
  | false => cases b with
   | true => simpa using h1 rfl
   | false => simpa using h2 rfl
 ·cases b with
  | true => simpa using h1 rfl
  | false => simpa using h2 rfl
def evExtract (x : AV) (k : Nat) : Option Ev := match x with
 | .tup cs => match cs.drop k with
  | c :: _ => Ev.pure c
  | [] => none
 | _ => none
theorem evExtract_ok (s : St n X σ ι a w) {o : Oper} {fresh : Id} {x : Operand} {k : Nat} {e : Ev}
  (ho : o.op = .extract x k) (he : evExtract (σ.opv x) k = some e) : OpOk P n X σ ι a w o fresh e.up e.val := by
 have hx := s.opv x
 unfold evExtract at he
 cases hq : σ.opv x <;> simp only [hq] at he hx <;> try (cases he; done)
 rename_i cs
 simp only [V] at hx
 obtain ⟨vs, e1, hV⟩ := hx
 cases hd : cs.drop k with
 | nil => rw [hd] at he; cases he
 | cons c r =>
  rw [hd] at he; cases he
  have : cs[k]? = some c := by
   have := congrArg (·[0]?) hd
   simpa [List.getElem?_drop] using this
  obtain ⟨v, hv, hV'⟩ := Vs_get k hV this
  refine OpOk.pure s v ?_ hV'
  simp [execOp, ho, e1, Instr.extract, hv]
def evNot (x : AV) : Option Ev := match x with
 | .bool b => Ev.pure (.bool (!b))
 | _ => none
theorem evNot_ok (s : St n X σ ι a w) {o : Oper} {fresh : Id} {x : Operand} {t : Nat} {e : Ev}
  (ho : o.op = .unOp .not t x) (he : evNot (σ.opv x) = some e) : OpOk P n X σ ι a w o fresh e.up e.val := by
 have hx := s.opv x
 unfold evNot at he
 cases hq : σ.opv x <;> simp only [hq] at he hx <;> try (cases he; done)
 cases he
 simp only [V] at hx
 rename_i b
 refine OpOk.pure s (.bool (!b)) ?_ (by simp only [V])
 simp [execOp, ho, hx, Op.unary]
def evNeg (x : AV) : Option Ev := match x with
 | .int k p => Ev.pure (.int k (k.wrap (0 - p)))
 | _ => none
theorem evNeg_ok (s : St n X σ ι a w) {o : Oper} {fresh : Id} {x : Operand} {t : Nat} {e : Ev}
  (ho : o.op = .unOp .neg t x) (he : evNeg (σ.opv x) = some e) : OpOk P n X σ ι a w o fresh e.up e.val := by
 have hx := s.opv x
 unfold evNeg at he
 cases hq : σ.opv x <;> simp only [hq] at he hx <;> try (cases he; done)
 cases he
 simp only [V] at hx
 refine OpOk.pure s (.int _ _) ?_ (by simp only [V]; exact ⟨rfl, Zdc _ _⟩)
 simp [execOp, ho, hx, Op.unary, Op.intArith]
def evConvert (T : Zbc) (dst : Nat) (x : AV) : Option Ev := match T dst with
 | some ⟨_, _, .int k, _⟩ => match x with
  | .int _ p => Ev.pure (.int k (k.wrap p))
  | _ => none
 | _ => none
theorem evConvert_ok (hT : TOk P T) (s : St n X σ ι a w) {o : Oper} {fresh : Id} {x : Operand} {t t' : Nat} {e : Ev} {d0 : TypeDesc} (hsrc : P.underlying t = some d0)
  (ho : o.op = .convert t t' x) (he : evConvert T t' (σ.opv x) = some e) : OpOk P n X σ ι a w o fresh e.up e.val := by
 have hx := s.opv x
 unfold evConvert at he
 split at he
 ·rename_i _ _ k _ ht
  obtain ⟨i, d, z, hok⟩ := hT t' _ ht
  have hk := hok.kind
  cases d <;> simp only [TK.rel] at hk
  subst hk
  cases hq : σ.opv x <;> simp only [hq] at he hx <;> try (cases he; done)
  cases he
  simp only [V] at hx
  refine OpOk.pure s (.int _ _) ?_ (by simp only [V]; exact ⟨rfl, Zdc _ _⟩)
  simp [execOp, ho, hx, convert, run_underlying hsrc, run_underlying hok.und, Conv.intToInt]
 ·cases he
def evNil (x : AV) : Option Ev := match x with
 | .bp i j => Ev.pure (.bp i j)
 | .rp i sz st j => Ev.pure (.rp i sz st j)
 | .ip cs => Ev.pure (.ip cs)
 | .fn f cs => Ev.pure (.fn f cs)
 | _ => none
theorem evNil_ok (s : St n X σ ι a w) {o : Oper} {fresh : Id} {x : Operand} {e : Ev}
  (ho : o.op = .nilCheck x) (he : evNil (σ.opv x) = some e) : OpOk P n X σ ι a w o fresh e.up e.val := by
 have hx := s.opv x
 unfold evNil at he
 cases hq : σ.opv x <;> simp only [hq] at he hx <;> try (cases he; done)
 case ip cs =>
  cases he
  refine OpOk.pure s (a.eval x) ?_ hx
  simp only [V] at hx
  obtain ⟨b, o', e1, _⟩ := hx
  simp [execOp, ho, e1]
 case bp id j =>
  cases he
  refine OpOk.pure s (a.eval x) ?_ hx
  simp only [V] at hx
  cases hl : ι id with
  | none => simp [hl] at hx
  | some l =>
   cases l with
   | ghost => simp [hl] at hx
   | nil => simp [hl] at hx
   | «at» b c =>
    simp only [hl] at hx
    simp [execOp, ho, hx]
 case rp id sz st j =>
  cases he
  refine OpOk.pure s (a.eval x) ?_ hx
  simp only [V] at hx
  cases hl : ι id with
  | none => simp [hl] at hx
  | some l =>
   cases l with
   | ghost => simp [hl] at hx
   | nil => simp [hl] at hx
   | «at» b c =>
    simp only [hl] at hx
    simp [execOp, ho, hx]
 case fn f cs =>
  cases he
  refine OpOk.pure s (a.eval x) ?_ hx
  simp only [V] at hx
  obtain ⟨vs, e1, _⟩ := hx
  simp [execOp, ho, e1]
def evLen (T : Zbc) (t : Nat) (x : AV) : Option Ev := match T t with
 | some ⟨_, _, .slice _, _⟩ => match x with
  | .sl _ m _ => Ev.pure (.int .i64 (m : Int))
  | .rs _ _ _ m => Ev.pure (.int .i64 (m : Int))
  | .nsl => Ev.pure (.int .i64 0)
  | _ => none
 | some ⟨_, _, .string, _⟩ => match x with
  | .str b => Ev.pure (.int .i64 (b.size : Int))
  | _ => none
 | some ⟨_, _, .array m _, _⟩ => bif Nat.ble m mL then Ev.pure (.int .i64 (m : Int)) else none
 | _ => none
theorem Ze2 {m : Nat} (h : m ≤ mL) : IntKind.i64.min ≤ (m : Int) ∧ (m : Int) ≤ IntKind.i64.max := by
 unfold mL at h
 simp [IntKind.min, IntKind.max, IntKind.signed, IntKind.bits]; omega
theorem evLen_ok (hT : TOk P T) (s : St n X σ ι a w) {o : Oper} {fresh : Id} {x : Operand} {c : Call} {t : Nat} {e : Ev}
  (ho : o.op = .call c) (hc : c.callee = .builtin .len) (ha : c.args = #[x]) (hat : c.argTypes[0]? = some t) (he : evLen T t (σ.opv x) = some e) : OpOk P n X σ ι a w o fresh e.up e.val := by
 have hx := s.opv x
 have run : ∀ v, (Builtin.len_ c.argTypes o.type #[a.eval x]).run P w = .ok v w → (execOp a.eval o).run P w = .ok (.value v) w := by
  intro v h
  simp only [execOp, ho, resolve, hc, ha, Sem.run_bind, Sem.run_pure, Result.andThen_ok, invoke]
  simp [builtin, h]
 unfold evLen at he
 split at he
 ·rename_i _ _ el _ ht
  obtain ⟨i, d, z, hok⟩ := hT t _ ht
  have hk := hok.kind
  cases d <;> simp only [TK.rel] at hk
  have go : ∀ p m c', a.eval x = .slice p m c' → (execOp a.eval o).run P w = .ok (.value (.int .i64 (m : Int))) w := by
   intro p m c' e1
   refine run _ ?_
   simp [Builtin.len_, hat, e1, run_underlying hok.und, goInt]
  cases hq : σ.opv x <;> simp only [hq] at he hx <;> try (cases he; done)
  case sl sz m f =>
   cases he
   simp only [V] at hx
   obtain ⟨p, c', e1, _, h3, _⟩ := hx
   exact OpOk.pure s _ (go p m c' e1) (by simp only [V]; exact ⟨trivial, Ze2 h3⟩)
  case nsl =>
   cases he
   simp only [V] at hx
   exact OpOk.pure s _ (go _ _ _ hx) (by simp only [V]; exact ⟨rfl, Ze2 (Nat.zero_le _)⟩)
  case rs id sz st m =>
   cases he
   simp only [V] at hx
   cases hl : ι id with
   | none => simp [hl] at hx
   | some l =>
    cases l with
    | ghost => simp [hl] at hx
    | nil =>
     simp only [hl] at hx
     obtain ⟨e1, _, e2⟩ := hx
     subst e2
     exact OpOk.pure s _ (go _ _ _ e1) (by simp only [V]; exact ⟨trivial, Ze2 (Nat.zero_le _)⟩)
    | «at» b c' =>
     simp only [hl] at hx
     obtain ⟨p, e1, _, h3, _⟩ := hx
     exact OpOk.pure s _ (go _ _ _ e1) (by simp only [V]; exact ⟨trivial, Ze2 h3⟩)
 ·rename_i _ _ _ ht
  obtain ⟨i, d, z, hok⟩ := hT t _ ht
  have hk := hok.kind
  cases d <;> simp only [TK.rel] at hk
  cases hq : σ.opv x <;> simp only [hq] at he hx <;> try (cases he; done)
  cases he
  simp only [V] at hx
  refine OpOk.pure s (.int .i64 _) (run _ ?_) (by simp only [V]; exact ⟨rfl, Ze2 hx.2⟩)
  simp [Builtin.len_, hat, hx.1, run_underlying hok.und, goInt]
 ·rename_i _ _ m el _ ht
  obtain ⟨i, d, z, hok⟩ := hT t _ ht
  have hk := hok.kind
  cases d <;> simp only [TK.rel] at hk
  obtain ⟨rfl, rfl⟩ := hk
  cases hm : Nat.ble m mL with
  | false => rw [hm] at he; cases he
  | true =>
   rw [hm] at he; cases he
   refine OpOk.pure s (.int .i64 _) (run _ ?_) (by simp only [V]; exact ⟨rfl, Ze2 (Nat.le_of_ble_eq_true hm)⟩)
   simp [Builtin.len_, hat, run_underlying hok.und, goInt]
 ·cases he
def fillL (place : Nat → Option (Nat × Nat)) (cells : List AV) : List (Nat × AV) → Option (List AV)
 | [] => some cells
 | (i, x) :: r => match place i with
  | none => none
  | some (off, sz) => bif Nat.beq (cellsOf x).length sz && Nat.ble (off + sz) cells.length then fillL place (Zev off (cellsOf x) cells) r else none
theorem Zef : ∀ (o : Nat) (cs l : List AV), o + cs.length ≤ l.length → Zev o cs l = l.take o ++ cs ++ l.drop (o + cs.length)
 | 0, [], l, _ => by simp [Zev]
 | 0, c :: cs, [], h => by simp at h
 | 0, c :: cs, x :: l, h => by
   have := Zef 0 cs l (by simp at h ⊢; omega)
   simp [Zev, this]
 | o + 1, cs, [], h => by simp at h
 | o + 1, cs, x :: l, h => by
   have := Zef o cs l (by simp at h; omega)
   simp [Zev, this]
   rw [show o + 1 + cs.length = o + cs.length + 1 by omega]; simp
theorem Vs_splice {own : Nat → Prop} {cs ds : List AV} {vs us : List Value} (o : Nat) (hc : Vs w own cs ι vs) (hd : Vs w own ds ι us) (hl : o + ds.length ≤ cs.length) :
  Vs w own (Zev o ds cs) ι (vs.take o ++ us ++ vs.drop (o + us.length)) := by
 rw [Zef o ds cs hl, ← Zby hd]
 exact Ze8 (Ze8 (Vs_take _ hc) hd) (Vs_drop _ hc)
theorem foldl_set : ∀ (us : List Value) (off k : Nat) (cs : Array Value), off + k + us.length ≤ cs.size →
  ((us.zipIdx k).foldl (fun cs (x : Value × Nat) => cs.setIfInBounds (off + x.2) x.1) cs).toList = cs.toList.take (off + k) ++ us ++ cs.toList.drop (off + k + us.length)
 | [], off, k, cs, _ => by simp
 | u :: us, off, k, cs, h => by
   have hlt : off + k < cs.size := by simp at h; omega
   have ih := foldl_set us off (k + 1) (cs.setIfInBounds (off + k) u) (by simp at h ⊢; omega)
   simp only [List.zipIdx_cons, List.foldl_cons]
   rw [ih]
   simp only [Array.toList_setIfInBounds]
   have hlt' : off + k < cs.toList.length := by simpa using hlt
   have e1 : List.take (off + (k + 1)) (cs.toList.set (off + k) u) = cs.toList.take (off + k) ++ [u] := by
    rw [show off + (k + 1) = off + k + 1 by omega, List.take_succ_eq_append_getElem (by simpa using hlt)]
    simp [List.take_set_of_le]
   have e2 : List.drop (off + (k + 1) + us.length) (cs.toList.set (off + k) u) = cs.toList.drop (off + k + (u :: us).length) := by
    rw [List.drop_set_of_lt (by omega)]
    congr 1; simp; omega
   rw [e1, e2]
   simp
theorem fill_ok {own : Nat → Prop} (place placeV : Nat → Option (Nat × Nat)) (hpv : ∀ k pl, place k = some pl → placeV k = some pl) : ∀ (parts : List (Nat × AV)) (vparts : List (Nat × Value)) (cells : List AV) (vs : List Value) (r : List AV),
  vparts.map (·.1) = parts.map (·.1) → (∀ (j : Nat) (p : Nat × AV) (q : Nat × Value), parts[j]? = some p → vparts[j]? = some q → ∃ us : List Value, q.2.cells = us.toArray ∧ Vs w own (cellsOf p.2) ι us) →
  Vs w own cells ι vs → fillL place cells parts = some r → ∃ us : List Value, Instr.fill placeV vs.toArray vparts = some us.toArray ∧ Vs w own r ι us
 | [], vparts, cells, vs, r, hm, _, hc, he => by
   simp at hm; subst hm
   simp [fillL] at he; subst he
   exact ⟨vs, by simp [Instr.fill], hc⟩
 | (i, x) :: parts, [], cells, vs, r, hm, _, _, _ => by simp at hm
 | (i, x) :: parts, (i', u) :: vparts, cells, vs, r, hm, hp, hc, he => by
   simp at hm
   obtain ⟨rfl, hm⟩ := hm
   simp only [fillL] at he
   cases hpl : place i' with
   | none => rw [hpl] at he; cases he
   | some pl =>
    obtain ⟨off, sz⟩ := pl
    simp only [hpl] at he
    cases hg : (Nat.beq (cellsOf x).length sz && Nat.ble (off + sz) cells.length) with
    | false => rw [hg] at he; cases he
    | true =>
     rw [hg] at he
     simp only [cond_true] at he
     simp only [Bool.and_eq_true] at hg
     have h1 := Nat.eq_of_beq_eq_true hg.1
     have h2 := Nat.le_of_ble_eq_true hg.2
     obtain ⟨us, e1, hV⟩ := hp 0 (i', x) (i', u) (by simp) (by simp)
     have hlen : (cellsOf x).length = us.length := Zby hV
     have hlc := Zby hc
     have hs := Vs_splice (ι := ι) off hc hV (by show off + (cellsOf x).length ≤ _; omega)
     have hfold := foldl_set us off 0 vs.toArray (by simp; omega)
     obtain ⟨us', e2, hV'⟩ := fill_ok place placeV hpv parts vparts _ _ r hm (fun j p q h1 h2 => hp (j + 1) p q (by simpa using h1) (by simpa using h2)) hs he
     refine ⟨us', ?_, hV'⟩
     simp only [Instr.fill, hpv i' _ hpl]
     have e1' : u.cells = us.toArray := e1
     rw [if_neg (by simp [e1']; omega)]
     rw [← e2]
     congr 1
     apply Array.ext'
     rw [e1', ← Array.foldl_toList, Array.toList_zipIdx]
     simpa using hfold
def opsL (f : Operand → AV) : List (Nat × Operand) → List (Nat × AV)
 | [] => []
 | (i, x) :: r => (i, f x) :: opsL f r
theorem opsL_eq (f : Operand → AV) : ∀ l, opsL f l = l.map fun p => (p.1, f p.2)
 | [] => rfl
 | (i, x) :: r => by simp [opsL, opsL_eq f r]
theorem V_cells {own : Nat → Prop} {x : AV} {v : Value} (h : V w own x ι v) (ha : x ≠ .any) (hg : ∀ j b y, x ≠ .guard j b y) : ∃ us : List Value, v.cells = us.toArray ∧ Vs w own (cellsOf x) ι us := by
 cases x with
 | any => exact absurd rfl ha
 | guard j b y => exact absurd rfl (hg j b y)
 | agg cs => simp only [V] at h; obtain ⟨vs, e, hV⟩ := h; exact ⟨vs, by rw [e]; rfl, hV⟩
 | rs i sz st len =>
  have h' := h
  simp only [V] at h'
  refine ⟨[v], ?_, by simp only [cellsOf, Vs]; exact ⟨v, [], rfl, h, rfl⟩⟩
  cases hl : ι i with
  | none => simp [hl] at h'
  | some l => cases l with
   | ghost => simp [hl] at h'
   | nil => simp only [hl] at h'; rw [h'.1]; rfl
   | «at» b c => simp only [hl] at h'; obtain ⟨p, e, _⟩ := h'; rw [e]; rfl
 | rp i sz st j =>
  have h' := h
  simp only [V] at h'
  refine ⟨[v], ?_, by simp only [cellsOf, Vs]; exact ⟨v, [], rfl, h, rfl⟩⟩
  cases hl : ι i with
  | none => simp [hl] at h'
  | some l => cases l with
   | ghost => simp [hl] at h'
   | nil => simp [hl] at h'
   | «at» b c => simp only [hl] at h'; rw [h']; rfl
 | bp i j =>
  have h' := h
  simp only [V] at h'
  refine ⟨[v], ?_, by simp only [cellsOf, Vs]; exact ⟨v, [], rfl, h, rfl⟩⟩
  cases hl : ι i with
  | none => simp [hl] at h'
  | some l => cases l with
   | ghost => simp [hl] at h'
   | nil => simp [hl] at h'
   | «at» b c => simp only [hl] at h'; rw [h']; rfl
 | mp i =>
  have h' := h
  simp only [V] at h'
  refine ⟨[v], ?_, by simp only [cellsOf, Vs]; exact ⟨v, [], rfl, h, rfl⟩⟩
  cases hl : ι i with
  | none => simp [hl] at h'
  | some l => cases l with
   | ghost => simp [hl] at h'
   | nil => simp [hl] at h'
   | «at» b c => simp only [hl] at h'; rw [h']; rfl
 | is u =>
  have h' := h
  simp only [V] at h'
  refine ⟨[v], ?_, by simp only [cellsOf, Vs]; exact ⟨v, [], rfl, h, rfl⟩⟩
  have h2 := h'.2
  clear h h'
  cases v <;> first | rfl | (exact absurd h2 (by simp [Value.oneCell']))
 | _ =>
  refine ⟨[v], ?_, by simp only [cellsOf, Vs]; exact ⟨v, [], rfl, h, rfl⟩⟩
  simp only [V] at h
  first
   | (rw [h]; rfl)
   | (rw [h.1]; rfl)
   | (obtain ⟨_, e, _⟩ := h; rw [e]; rfl)
   | (obtain ⟨_, _, e, _⟩ := h; rw [e]; rfl)
   | (obtain ⟨_, _, _, e, _⟩ := h; rw [e]; rfl)
def Zce : List (Nat × AV) → Bool
 | [] => true
 | (_, x) :: r => (match x with | .any | .guard _ _ _ => false | _ => true) && Zce r
theorem plainParts_spec : ∀ {l : List (Nat × AV)}, Zce l = true → ∀ p ∈ l, p.2 ≠ .any ∧ ∀ j b y, p.2 ≠ .guard j b y
 | [], _, p, hp => by cases hp
 | (i, x) :: r, h, p, hp => by
   simp only [Zce, Bool.and_eq_true] at h
   rcases List.mem_cons.1 hp with e | e
   ·subst e
    constructor
    ·intro e; simp only at e; rw [e] at h; simp at h
    ·intro j b y e; simp only at e; rw [e] at h; simp at h
   ·exact plainParts_spec h.2 p e
def Ze9 (T : Zbc) (fs : List (Nat × Nat)) (k : Nat) : Option (Nat × Nat) := match nth fs k with
 | some (off, t) => match T t with
  | some ti => some (off, ti.size)
  | none => none
 | none => none
def evBuild (T : Zbc) (σ : ASt) (t : Nat) (parts : List (Nat × Operand)) : Option Ev := match T t with
 | some ⟨_, _, .struct fs, z⟩ => bif Zce (opsL σ.opv parts) then match fillL (Ze9 T fs) z (opsL σ.opv parts) with
   | some cs => Ev.pure (.agg cs)
   | none => none
  else none
 | some ⟨_, _, .array _ el, z⟩ => match T el with
  | some te => bif Zce (opsL σ.opv parts) then match fillL (fun i => some (i * te.size, te.size)) z (opsL σ.opv parts) with
    | some cs => Ev.pure (.agg cs)
    | none => none
   else none
  | none => none
 | _ => none
theorem run_mapM {α β : Type} (f : α → Sem β) (g : α → β) (w : World) : ∀ (l : List α), (∀ x ∈ l, (f x).run P w = .ok (g x) w) → (l.mapM f).run P w = .ok (l.map g) w
 | [], _ => by simp
 | x :: l, h => by
   have h1 := h x (by simp)
   have h2 := run_mapM f g w l (fun y hy => h y (by simp [hy]))
   simp [List.mapM_cons, h1, h2]
theorem parts_ok {own : Nat → Prop} (σ : ASt) (hop : ∀ x, V w own (σ.opv x) ι (a.eval x)) (parts : List (Nat × Operand)) (hp : Zce (opsL σ.opv parts) = true) :
  ∀ (j : Nat) (p : Nat × AV) (q : Nat × Value), (opsL σ.opv parts)[j]? = some p → (parts.map fun (i, x) => (i, a.eval x))[j]? = some q → ∃ us : List Value, q.2.cells = us.toArray ∧ Vs w own (cellsOf p.2) ι us := by
 intro j p q h1 h2
 have hm := plainParts_spec hp p (List.mem_of_getElem? h1)
 rw [opsL_eq, List.getElem?_map] at h1
 rw [List.getElem?_map] at h2
 cases hx : parts[j]? with
 | none => rw [hx] at h1; cases h1
 | some x =>
  rw [hx] at h1 h2
  simp at h1 h2
  subst h1; subst h2
  exact V_cells (hop x.2) hm.1 hm.2
theorem evBuild_ok (hT : TOk P T) (s : St n X σ ι a w) {o : Oper} {fresh : Id} {t : Nat} {parts : Array (Nat × Operand)} {e : Ev}
  (ho : o.op = .build t parts) (he : evBuild T σ t parts.toList = some e) : OpOk P n X σ ι a w o fresh e.up e.val := by
 have hex : ∀ v, (Instr.build t (parts.map fun (i, x) => (i, a.eval x))).run P w = .ok v w → (execOp a.eval o).run P w = .ok (.value v) w := by
  intro v h
  simp only [execOp, ho, Sem.run_bind, h, Result.andThen_ok, Sem.run_pure]
 have hmap : (parts.map fun (i, x) => (i, a.eval x)).toList = parts.toList.map fun (i, x) => (i, a.eval x) := by simp
 have hfst : (parts.toList.map fun (i, x) => (i, a.eval x)).map (·.1) = (opsL σ.opv parts.toList).map (·.1) := by
  rw [opsL_eq]; simp [Function.comp_def]
 unfold evBuild at he
 split at he
 ·rename_i sz0 by0 fs z ht
  obtain ⟨i, d, zv, hok⟩ := hT t _ ht
  have hk := hok.kind
  cases d <;> simp only [TK.rel] at hk
  rename_i gs
  subst hk
  cases hpp : Zce (opsL σ.opv parts.toList) with
  | false => rw [hpp] at he; cases he
  | true =>
   rw [hpp] at he
   simp only [cond_true] at he
   cases hf : fillL (Ze9 T (gs.toList.map fun g => (g.offset, g.type))) z (opsL σ.opv parts.toList) with
   | none => rw [hf] at he; cases he
   | some cs =>
    rw [hf] at he; cases he
    obtain ⟨za, hza⟩ := hok.agg rfl
    have hz := hok.zeroV w (Own X ι) ι
    rw [hza] at hz
    simp only [Value.cells] at hz
    have hplaces : (gs.mapM fun f => (do pure (f.offset, ← Go.sizeOf f.type) : Sem (Nat × Nat))).run P w = .ok (gs.map fun f => (f.offset, P.cellsOf f.type)) w := by
     rw [Array.mapM_eq_mapM_toList]
     have := run_mapM (P := P) (fun f : Field => (do pure (f.offset, ← Go.sizeOf f.type) : Sem (Nat × Nat))) (fun f => (f.offset, P.cellsOf f.type)) w gs.toList (fun g hg => by
      obtain ⟨j, hj⟩ := hok.parts gs rfl g (by simpa using hg)
      simp [Go.sizeOf, typeInfo, hj, Program.cellsOf])
     simp only [Sem.run_map, this, Result.andThen_ok]
     congr 1
     apply Array.ext'
     simp
    have hpv : ∀ k pl, Ze9 T (gs.toList.map fun g => (g.offset, g.type)) k = some pl → (gs.map fun f => (f.offset, P.cellsOf f.type))[k]? = some pl := by
     intro k pl h
     unfold Ze9 at h
     rw [nth_eq, List.getElem?_map] at h
     cases hg : gs.toList[k]? with
     | none => rw [hg] at h; cases h
     | some g =>
      rw [hg] at h
      simp only [Option.map_some] at h
      cases hti : T g.type with
      | none => rw [hti] at h; cases h
      | some ti =>
       rw [hti] at h; cases h
       obtain ⟨i', d', z', hok'⟩ := hT _ _ hti
       have : gs[k]? = some g := by simpa using hg
       simp [this, Program.cellsOf, hok'.info, hok'.size]
    obtain ⟨us, e1, hV⟩ := fill_ok (w := w) (ι := ι) (own := Own X ι) _ _ hpv (opsL σ.opv parts.toList) (parts.toList.map fun (i, x) => (i, a.eval x)) z za.toList cs hfst
     (parts_ok σ (fun x => s.opv x) parts.toList hpp) hz hf
    refine OpOk.pure s (.agg us.toArray) (hex _ ?_) (by simp only [V]; exact ⟨us, rfl, hV⟩)
    simp only [Instr.build, Sem.run_bind, zeroValue, run_typeInfo _ hok.info, Result.andThen_ok, hok.zero, Sem.run_pure, run_underlying hok.und, hplaces, hza, Value.cells, hmap]
    simp only [Array.toArray_toList] at e1
    rw [e1]
    simp
 ·rename_i sz0 by0 m el z ht
  obtain ⟨i, d, zv, hok⟩ := hT t _ ht
  have hk := hok.kind
  cases d <;> simp only [TK.rel] at hk
  rename_i m' el'
  obtain ⟨rfl, rfl⟩ := hk
  cases hti : T el with
  | none => rw [hti] at he; cases he
  | some te =>
   rw [hti] at he
   simp only at he
   obtain ⟨i', d', z', hok'⟩ := hT _ _ hti
   cases hpp : Zce (opsL σ.opv parts.toList) with
   | false => rw [hpp] at he; cases he
   | true =>
    rw [hpp] at he
    simp only [cond_true] at he
    cases hf : fillL (fun i => some (i * te.size, te.size)) z (opsL σ.opv parts.toList) with
    | none => rw [hf] at he; cases he
    | some cs =>
     rw [hf] at he; cases he
     obtain ⟨za, hza⟩ := hok.agg rfl
     have hz := hok.zeroV w (Own X ι) ι
     rw [hza] at hz
     simp only [Value.cells] at hz
     obtain ⟨us, e1, hV⟩ := fill_ok (w := w) (ι := ι) (own := Own X ι) _ _ (fun _ _ h => h) (opsL σ.opv parts.toList) (parts.toList.map fun (i, x) => (i, a.eval x)) z za.toList cs hfst
      (parts_ok σ (fun x => s.opv x) parts.toList hpp) hz hf
     refine OpOk.pure s (.agg us.toArray) (hex _ ?_) (by simp only [V]; exact ⟨us, rfl, hV⟩)
     simp only [Instr.build, Sem.run_bind, zeroValue, run_typeInfo _ hok.info, Result.andThen_ok, hok.zero, Sem.run_pure, run_underlying hok.und, hok'.sizeOf w, hza, Value.cells, hmap]
     simp only [Array.toArray_toList] at e1
     rw [e1]
     simp
 ·cases he
end
theorem isImm_V {w : World} {own : Nat → Prop} {ι : Zai} {x : AV} {v : Value} (hi : Zch x = true) (h : V w own x ι v) : V w own x ι0 v := by
 cases x <;> simp only [Zch] at hi <;> try (cases hi; done)
 all_goals first
  | (simp only [V] at h ⊢; exact h)
  | skip
 rename_i f cs
 cases cs with
 | nil => simp only [V, Vs] at h ⊢; exact h
 | cons c cs => simp at hi
theorem allImm_Vs {w : World} {own : Nat → Prop} {ι : Zai} : ∀ {cs : List AV} {vs : List Value}, allB Zch cs = true → Vs w own cs ι vs → Vs w own cs ι0 vs
 | [], _, _, h => by simp only [Vs] at h ⊢; exact h
 | c :: cs, _, hi, h => by
   simp only [allB, Bool.and_eq_true] at hi
   simp only [Vs] at h ⊢
   obtain ⟨v, r, e, h1, h2⟩ := h
   exact ⟨v, r, e, isImm_V hi.1 h1, allImm_Vs hi.2 h2⟩
theorem Vs_imm {w : World} {own : Nat → Prop} {ι : Zai} {cs : List AV} {vs : List Value} (h : Vs w own cs ι vs) : Vs w own cs (bif allB Zch cs then ι0 else ι) vs := by
 cases e : allB Zch cs with
 | true => exact allImm_Vs e h
 | false => exact h
theorem Vs_imm' {w : World} {own : Nat → Prop} {ι : Zai} {cs : List AV} {vs : List Value} {imm : Bool} (hi : imm = true → allB Zch cs = true) (h : Vs w own cs ι vs) : Vs w own cs (bif imm then ι0 else ι) vs := by
 cases imm with
 | true => exact allImm_Vs (hi rfl) h
 | false => exact h
section
variable {P : Program} {T : Zbc} {n : Nat} {X : Nat → Prop} {σ : ASt} {ι : Zai} {a : Act} {w : World}
theorem isCell_one {own : Nat → Prop} {x : AV} {v : Value} (h : Zcj x = true) (hv : V w own x ι v) : v.oneCell' = true := by
 cases x <;> simp only [Zcj] at h <;> try (cases h; done)
 all_goals simp only [V] at hv
 case rs i sz st len =>
  cases hl : ι i with
  | none => simp [hl] at hv
  | some l => cases l with
   | ghost => simp [hl] at hv
   | nil => simp only [hl] at hv; rw [hv.1]; rfl
   | «at» b c => simp only [hl] at hv; obtain ⟨p, e, _⟩ := hv; rw [e]; rfl
 case rp i sz st j =>
  cases hl : ι i with
  | none => simp [hl] at hv
  | some l => cases l with
   | ghost => simp [hl] at hv
   | nil => simp [hl] at hv
   | «at» b c => simp only [hl] at hv; rw [hv]; rfl
 case bp i j =>
  cases hl : ι i with
  | none => simp [hl] at hv
  | some l => cases l with
   | ghost => simp [hl] at hv
   | nil => simp [hl] at hv
   | «at» b c => simp only [hl] at hv; rw [hv]; rfl
 case mp i =>
  cases hl : ι i with
  | none => simp [hl] at hv
  | some l => cases l with
   | ghost => simp [hl] at hv
   | nil => simp [hl] at hv
   | «at» b c => simp only [hl] at hv; rw [hv]; rfl
 all_goals first
   | exact hv.2
   | (rw [hv]; rfl)
   | (rw [hv.1]; rfl)
   | (obtain ⟨_, e, _⟩ := hv; rw [e]; rfl)
   | (obtain ⟨_, _, e, _⟩ := hv; rw [e]; rfl)
   | (obtain ⟨_, _, _, e, _⟩ := hv; rw [e]; rfl)
theorem Zc0 {own : Nat → Prop} : ∀ {cs : List AV} {vs : List Value}, allB Zcj cs = true → Vs w own cs ι vs → ∀ v ∈ vs, v.oneCell' = true
 | [], _, _, h, v, hv => by simp only [Vs] at h; subst h; cases hv
 | c :: cs, _, hi, h, v, hv => by
   simp only [allB, Bool.and_eq_true] at hi
   simp only [Vs] at h
   obtain ⟨u, r, e, h1, h2⟩ := h
   subst e
   rcases List.mem_cons.1 hv with e | e
   ·subst e; exact isCell_one hi.1 h1
   ·exact Zc0 hi.2 h2 v e
theorem OpOk.alloc (s : St n X σ ι a w) {o : Oper} {fresh : Id} (hi : σ.h fresh = none) (c : Nat) (blk : Zau) (x : AV) (v : Value) (w' : World)
  (nw : New w w') (h : (execOp a.eval o).run P w = .ok (.value v) w')
  (hb : ∀ ι', ι' = updP ι fresh (some (.at w.heap.size c)) → Keep w w' (Own X ι) (Own X ι') → Sub ι ι' → BRel w' (Own X ι') ι' blk (.at w.heap.size c))
  (hx : ∀ ι', ι' = updP ι fresh (some (.at w.heap.size c)) → V w' (Own X ι') x ι' v) :
  OpOk P n X σ ι a w o fresh (.alloc blk) x := by
 have hsub : Sub ι (updP ι fresh (some (.at w.heap.size c))) := Zds (s.sim.lost hi)
 have k := s.sim.keepNew (i := fresh) nw c
 have s' := s.sim.alloc hi nw c blk (hb _ rfl k hsub)
 refine ⟨.value v, v, w', _, h, .inl rfl, s', fun y u' hy => Zbz k y u' hsub hy, hx _ rfl, ⟨⟨nw.os, nw.tape, nw.output, by have := nw.size; omega, fun b hb _ => nw.old b hb, fun a _ => nw.fz a⟩, fun b ho => ?_⟩⟩
 rcases Zek ho with h | ⟨c', e⟩
 ·exact .inl h
 ·cases e; exact .inr (Nat.le_refl _)
theorem cell_new {w' : World} {b : Nat} {arr : Array Value} {t : TypeId} (h : w'.heap[b]? = some (.cells arr t (0, 0))) (o : Nat) : w'.cell? ⟨b, o, none⟩ = arr[o]? := by
 simp [World.cell?, h]
theorem Vc_row {w' : World} {own : Nat → Prop} {ι' : Zai} {b o : Nat} {arr : Array Value} {t : TypeId} {cs : List AV} {vs : List Value} (h : w'.heap[b]? = some (.cells arr t (0, 0)))
  (hV : Vs w' own cs ι' vs) (hc : ∀ j v, vs[j]? = some v → arr[o + j]? = some v) (hone : ∀ v ∈ vs, v.oneCell' = true) : Vc w' own cs ι' b o :=
 Vc_of_Vs hV (fun j v hj => by rw [cell_new h]; exact hc j v hj) hone
theorem box_ok (s : St n X σ ι a w) {o : Oper} {fresh : Id} (hi : σ.h fresh = none) (ty : TypeId) (cs : List AV) (us : List Value) (hV : Vs w (Own X ι) cs ι us) (hcell : allB Zcj cs = true)
  (h : (execOp a.eval o).run P w = .ok (.value (.pointer (some ⟨w.heap.size, 0, none⟩))) (w.alloc (.cells us.toArray ty))) :
  OpOk P n X σ ι a w o fresh (.alloc (Zam cs)) (.bp fresh 0) := by
 have hnew : (w.alloc (.cells us.toArray ty)).heap[w.heap.size]? = some (.cells us.toArray ty (0, 0)) := heap_alloc_new w _
 refine OpOk.alloc s hi 1 _ _ _ _ (New.alloc w _ _) h (fun ι' _ k hs => ?_) (fun ι' e => ?_)
 ·refine ⟨us.toArray, ty, hnew, Nat.le_refl _, by simp [Zby hV], fun i hi => ?_⟩
  have : i = 0 := by omega
  subst this
  refine ⟨rfl, ?_⟩
  have hV' := Vs_imm (Zdr k cs us hs hV)
  exact Vc_row hnew hV' (fun j v hj => by simpa using hj) (Zc0 hcell hV)
 ·subst e; simp [V, Zav]
def evAlloc (T : Zbc) (σ : ASt) (fresh : Id) (t : Nat) : Option Ev := match T t with
 | some ti => bif allB Zcj ti.zero then match σ.h fresh with
  | none => some ⟨none, .bp fresh 0, .box ti.zero, []⟩
  | some _ => none
  else none
 | none => none
theorem evAlloc_ok (hT : TOk P T) (s : St n X σ ι a w) {o : Oper} {fresh : Id} {t : Nat} {e : Ev}
    (ho : o.op = .alloc t) (he : evAlloc T σ fresh t = some e) : OpOk P n X σ ι a w o fresh e.up e.val := by
  unfold evAlloc at he
  cases ht : T t with
  | none => rw [ht] at he; cases he
  | some ti =>
    rw [ht] at he
    obtain ⟨i, d, z, hok⟩ := hT t _ ht
    cases hcell : allB Zcj ti.zero with
    | false => simp [hcell] at he
    | true =>
     simp only [hcell, cond_true] at he
     cases hi : σ.h fresh with
     | some _ => rw [hi] at he; cases he
     | none =>
      rw [hi] at he; cases he
      refine box_ok s hi t ti.zero z.cells.toList (hok.zeroV w (Own X ι) ι) hcell ?_
      simp [execOp, ho, Instr.alloc, zeroValue, run_typeInfo _ hok.info, hok.zero, newVar, newRow]
def plainAV : AV → Bool
 | .any | .guard _ _ _ => false
 | _ => true
theorem plainAV_spec {x : AV} (h : plainAV x = true) : x ≠ .any ∧ ∀ j b y, x ≠ .guard j b y := by
 cases x <;> simp [plainAV] at h <;> simp
def evBox (σ : ASt) (fresh : Id) (x : AV) : Option Ev := bif plainAV x && allB Zcj (cellsOf x) then match σ.h fresh with
  | none => some ⟨none, .bp fresh 0, .box (cellsOf x), []⟩
  | some _ => none
 else none
theorem evBox_ok (s : St n X σ ι a w) {o : Oper} {fresh : Id} {t : Nat} {x : Operand} {e : Ev}
  (ho : o.op = .box t x) (he : evBox σ fresh (σ.opv x) = some e) : OpOk P n X σ ι a w o fresh e.up e.val := by
 unfold evBox at he
 cases hp : (plainAV (σ.opv x) && allB Zcj (cellsOf (σ.opv x))) with
 | false => rw [hp] at he; cases he
 | true =>
  rw [hp] at he
  simp only [cond_true] at he
  simp only [Bool.and_eq_true] at hp
  obtain ⟨hp, hcell⟩ := hp
  cases hi : σ.h fresh with
  | some _ => rw [hi] at he; cases he
  | none =>
   rw [hi] at he; cases he
   obtain ⟨us, e1, hV⟩ := V_cells (s.opv x) (plainAV_spec hp).1 (plainAV_spec hp).2
   refine box_ok s hi t _ us hV hcell ?_
   simp [execOp, ho, Instr.box, newVar, newRow, e1]
theorem row_ok (s : St n X σ ι a w) {o : Oper} {fresh : Id} (hi : σ.h fresh = none) (ty : TypeId) (imm : Bool) (sz m : Nat) (f : Nat → List AV) (vs : List Value)
  (hl : vs.length = m * sz) (hm : m ≤ mL) (hone : ∀ v ∈ vs, v.oneCell' = true) (hf : ∀ i, i < m → (f i).length = sz ∧ (imm = true → allB Zch (f i) = true) ∧ Vs w (Own X ι) (f i) ι ((vs.drop (i * sz)).take sz))
  (h : (execOp a.eval o).run P w = .ok (.value (.slice (some ⟨w.heap.size, 0, none⟩) m m)) (w.alloc (.cells vs.toArray ty))) :
  OpOk P n X σ ι a w o fresh (.alloc (.row imm sz m f)) (.rs fresh sz 0 m) := by
 have hnew : (w.alloc (.cells vs.toArray ty)).heap[w.heap.size]? = some (.cells vs.toArray ty (0, 0)) := heap_alloc_new w _
 refine OpOk.alloc s hi m _ _ _ _ (New.alloc w _ _) h (fun ι' _ k hs => ?_) (fun ι' e => ?_)
 ·refine ⟨vs.toArray, ty, hnew, Nat.le_refl _, by simp [hl], fun i hi => ?_⟩
  obtain ⟨h1, h2, h3⟩ := hf i hi
  refine ⟨h1, ?_⟩
  have hV' := Vs_imm' h2 (Zdr k _ _ hs h3)
  refine Vc_row hnew hV' (fun j v hj => ?_) (fun v hv => hone v (List.mem_of_mem_drop (List.mem_of_mem_take hv)))
  rw [List.getElem?_take] at hj
  split at hj
  ·rw [List.getElem?_drop] at hj; simpa using hj
  ·cases hj
 ·subst e
  simp only [V, Zav, Nat.zero_mul, Nat.sub_zero, Nat.zero_add]
  exact ⟨_, rfl, Nat.le_refl _, hm, .inr rfl⟩
def repL (z : List AV) : Nat → List AV
 | 0 => []
 | k + 1 => z ++ repL z k
def Zdb (T : Zbc) (σ : ASt) (fresh : Id) (t len : Nat) (parts : List (Nat × Operand)) : Option Ev := match T t with
 | some ⟨_, _, .slice el, _⟩ => match T el with
  | some te => bif Zce (opsL σ.opv parts) && Nat.ble (len * te.size) 4096 && Nat.ble 1 te.size then match fillL (fun i => some (i * te.size, te.size)) (repL te.zero len) (opsL σ.opv parts) with
    | some cs => bif allB Zcj cs then match σ.h fresh with
     | none => some ⟨none, .rs fresh te.size 0 len, .bld te.size len cs, []⟩
     | some _ => none
     else none
    | none => none
   else none
  | none => none
 | _ => none
theorem repL_length (z : List AV) : ∀ k, (repL z k).length = k * z.length
 | 0 => by simp [repL]
 | k + 1 => by simp [repL, repL_length z k, Nat.succ_mul]; omega
theorem fillL_length (place : Nat → Option (Nat × Nat)) : ∀ (parts : List (Nat × AV)) (cs r : List AV), fillL place cs parts = some r → r.length = cs.length
 | [], cs, r, h => by simp [fillL] at h; rw [h]
 | (i, x) :: parts, cs, r, h => by
   simp only [fillL] at h
   cases hp : place i with
   | none => rw [hp] at h; cases h
   | some pl =>
    obtain ⟨off, sz⟩ := pl
    simp only [hp] at h
    cases hg : (Nat.beq (cellsOf x).length sz && Nat.ble (off + sz) cs.length) with
    | false => rw [hg] at h; cases h
    | true =>
     rw [hg] at h
     simp only [cond_true] at h
     simp only [Bool.and_eq_true] at hg
     have h1 := Nat.eq_of_beq_eq_true hg.1
     have h2 := Nat.le_of_ble_eq_true hg.2
     rw [fillL_length place parts _ r h, Zef _ _ _ (by omega)]
     simp; omega
theorem allB_take {p : AV → Bool} : ∀ (k : Nat) {cs : List AV}, allB p cs = true → allB p (cs.take k) = true
 | 0, cs, _ => by simp [allB]
 | k + 1, [], _ => by simp [allB]
 | k + 1, c :: cs, h => by
   simp only [allB, Bool.and_eq_true, List.take_succ_cons] at h ⊢
   exact ⟨h.1, allB_take k h.2⟩
theorem allB_drop {p : AV → Bool} : ∀ (k : Nat) {cs : List AV}, allB p cs = true → allB p (cs.drop k) = true
 | 0, cs, h => by simpa using h
 | k + 1, [], _ => by simp [allB]
 | k + 1, c :: cs, h => by
   simp only [allB, Bool.and_eq_true] at h
   simpa using allB_drop k h.2
theorem evBuildSlice_ok (hT : TOk P T) (s : St n X σ ι a w) {o : Oper} {fresh : Id} {t len : Nat} {parts : Array (Nat × Operand)} {e : Ev}
    (ho : o.op = .buildSlice t len parts) (he : Zdb T σ fresh t len parts.toList = some e) : OpOk P n X σ ι a w o fresh e.up e.val := by
  have hmap : (parts.map fun (i, x) => (i, a.eval x)).toList = parts.toList.map fun (i, x) => (i, a.eval x) := by simp
  have hfst : (parts.toList.map fun (i, x) => (i, a.eval x)).map (·.1) = (opsL σ.opv parts.toList).map (·.1) := by
    rw [opsL_eq]; simp [Function.comp_def]
  unfold Zdb at he
  split at he
  · rename_i _ _ el _ ht
    obtain ⟨i, d, zv, hok⟩ := hT t _ ht
    have hk := hok.kind
    cases d <;> simp only [TK.rel] at hk
    rename_i el2
    cases hk
    cases hti : T el with
    | none => rw [hti] at he; cases he
    | some te =>
      rw [hti] at he
      simp only at he
      obtain ⟨i', d', z', hok'⟩ := hT _ _ hti
      cases hpp : (Zce (opsL σ.opv parts.toList) && Nat.ble (len * te.size) 4096 && Nat.ble 1 te.size) with
      | false => rw [hpp] at he; cases he
      | true =>
        rw [hpp] at he
        simp only [cond_true] at he
        simp only [Bool.and_eq_true] at hpp
        obtain ⟨⟨hpp, hsm⟩, h1⟩ := hpp
        have hsm := Nat.le_of_ble_eq_true hsm
        have h1 := Nat.le_of_ble_eq_true h1
        cases hf : fillL (fun i => some (i * te.size, te.size)) (repL te.zero len) (opsL σ.opv parts.toList) with
        | none => rw [hf] at he; cases he
        | some cs =>
          rw [hf] at he
          simp only at he
          cases hcell : allB Zcj cs with
          | false => simp [hcell] at he
          | true =>
           simp only [hcell, cond_true] at he
           cases hi : σ.h fresh with
           | some _ => rw [hi] at he; cases he
           | none =>
            rw [hi] at he; cases he
            have hzl : te.zero.length = z'.cells.toList.length := Zby (hok'.zeroV w (Own X ι) ι)
            have hzn : z'.cells.size = te.size := hok'.zeroN
            have hz0 : te.zero.length = te.size := by rw [hzl]; simpa using hzn
            have hrep : ∀ k, Vs w (Own X ι) (repL te.zero k) ι ((List.range (k * te.size)).map (z'.cells[· % z'.cells.size]!)) := by
              intro k
              induction k with
              | zero => simp [repL, Vs]
              | succ k ih =>
                have e1 : (List.range ((k + 1) * te.size)).map (z'.cells[· % z'.cells.size]!) = z'.cells.toList ++ (List.range (k * te.size)).map (z'.cells[· % z'.cells.size]!) := by
                  rw [show (k + 1) * te.size = te.size + k * te.size by rw [Nat.succ_mul]; omega, List.range_add, List.map_append]
                  congr 1
                  · apply List.ext_getElem?
                    intro j
                    by_cases hj : j < te.size
                    · have hj' : j < z'.cells.size := by omega
                      simp [hj, Nat.mod_eq_of_lt hj', hj']
                    · have hj' : ¬ j < z'.cells.size := by omega
                      simp [hj, hj']
                  · rw [List.map_map]
                    apply List.map_congr_left
                    intro j _
                    simp [hzn]
                rw [e1]
                exact Ze8 (hok'.zeroV w (Own X ι) ι) ih
            obtain ⟨us, e1, hV⟩ := fill_ok (w := w) (ι := ι) (own := Own X ι) _ _ (fun _ _ h => h) (opsL σ.opv parts.toList) (parts.toList.map fun (i, x) => (i, a.eval x)) _ _ cs hfst
              (parts_ok σ (fun x => s.opv x) parts.toList hpp) (hrep len) hf
            have hul : us.length = len * te.size := by
              rw [← Zby hV, fillL_length _ _ _ _ hf, repL_length, hz0]
            refine row_ok s hi el (allB Zch cs) te.size len _ us hul (by unfold mL; have : len ≤ len * te.size := Nat.le_mul_of_pos_right _ h1; omega) (Zc0 hcell hV) (fun i hi => ?_) ?_
            · have hle : i * te.size + te.size ≤ cs.length := by
                rw [Zby hV, hul, ← Nat.succ_mul]; exact Nat.mul_le_mul_right _ hi
              refine ⟨by simp [Zfd, Zde, Zc5]; omega, fun h => by rw [Zfd, Zde, Zc5]; exact allB_take _ (allB_drop _ h), ?_⟩
              rw [Zfd, Zde, Zc5]
              exact Vs_take _ (Vs_drop _ hV)
            · have hbig : ¬ (16777216 < len * te.size) := by omega
              simp only [execOp, ho, Instr.buildSlice, Sem.run_bind, run_underlying hok.und, Result.andThen_ok, hok'.sizeOf w, Sem.run_pure]
              simp only [gt_iff_lt, hbig, if_false]
              by_cases h0 : len * te.size = 0
              · have e2 : Instr.fill (fun i => some (i * te.size, te.size)) (Array.map (fun x => (#[] : Array Value)[x % (#[] : Array Value).size]!) (Array.range (len * te.size))) (parts.toList.map fun (i, x) => (i, a.eval x)) = some us.toArray := by
                  rw [h0] at e1 ⊢; simpa [show Array.range 0 = #[] from rfl] using e1
                simp only [if_pos h0, Sem.run_bind, Sem.run_pure, Result.andThen_ok, hmap]
                rw [e2]
                simp [newRow]
              · have e2 : Instr.fill (fun i => some (i * te.size, te.size)) (Array.map (fun x => z'.cells[x % z'.cells.size]!) (Array.range (len * te.size))) (parts.toList.map fun (i, x) => (i, a.eval x)) = some us.toArray := by
                  rw [← e1]; congr 1; apply Array.ext'; simp
                simp only [if_neg h0, zeroValue, Sem.run_bind, run_typeInfo _ hok'.info, hok'.zero, Sem.run_pure, Result.andThen_ok, hmap]
                rw [e2]
                simp [newRow]
  · cases he
end
section
variable {P : Program} {T : Zbc} {n : Nat} {X : Nat → Prop} {σ : ASt} {ι : Zai} {a : Act} {w : World}
def Zdp (T : Zbc) (σ : ASt) (fresh : Id) (t : Nat) (l c : AV) : Option Ev := match T t with
 | some ⟨_, _, .slice el, _⟩ => match T el with
  | some te => match l, c with
   | .int _ p, .int _ q => bif Nat.ble te.bytes 4096 && allB Zcj te.zero then match σ.h fresh with
    | none => some ⟨some (p = q ∧ 0 ≤ p ∧ p ≤ (mL : Int)), .rs fresh te.size 0 p.toNat, .alloc (.row (allB Zch te.zero) te.size p.toNat (fun _ => te.zero)), []⟩
    | some _ => none
    else none
   | _, _ => none
  | none => none
 | _ => none
theorem evMakeSlice_ok (hT : TOk P T) (s : St n X σ ι a w) {o : Oper} {fresh : Id} {t : Nat} {l c : Operand} {e : Ev}
  (ho : o.op = .makeSlice t l c) (he : Zdp T σ fresh t (σ.opv l) (σ.opv c) = some e) (hb : ∀ p, e.obl = some p → p) : OpOk P n X σ ι a w o fresh e.up e.val := by
 have hl := s.opv l
 have hc := s.opv c
 unfold Zdp at he
 split at he
 ·rename_i _ _ el _ ht
  obtain ⟨i, d, zv, hok⟩ := hT t _ ht
  have hk := hok.kind
  cases d <;> simp only [TK.rel] at hk
  rename_i el2
  cases hk
  split at he
  ·rename_i te hte
   obtain ⟨i', d', z', hok'⟩ := hT el _ hte
   split at he
   ·rename_i k p k' q e1 e2
    rw [e1] at hl; rw [e2] at hc
    simp only [V] at hl hc
    cases hby : (Nat.ble te.bytes 4096 && allB Zcj te.zero) with
    | false => rw [hby] at he; cases he
    | true =>
     rw [hby] at he
     simp only [cond_true] at he
     simp only [Bool.and_eq_true] at hby
     obtain ⟨hby, hcell⟩ := hby
     have hby := Nat.le_of_ble_eq_true hby
     cases hi : σ.h fresh with
     | some _ => rw [hi] at he; cases he
     | none =>
      rw [hi] at he; cases he
      obtain ⟨hpq, h0, hm⟩ := hb _ rfl
      subst hpq
      unfold mL at hm
      have hbb : (i'.bytes : Int) * p ≤ 281474976710656 := by
       rw [hok'.bytes]
       have h1 : (te.bytes : Int) ≤ 4096 := by omega
       calc (te.bytes : Int) * p ≤ 4096 * p := Int.mul_le_mul_of_nonneg_right h1 h0
        _ ≤ _ := by omega
      have hrun := run_make (P := P) w t el i' z' hok.und hok'.info hok'.zero k k' p p h0 (Int.le_refl _) hbb (by omega)
      have hz0 : te.zero.length = te.size := by rw [Zby (hok'.zeroV w (Own X ι) ι)]; simpa using hok'.zeroN
      have hzn : z'.cells.size = te.size := hok'.zeroN
      have hrow := row_ok (P := P) s (o := o) hi el (allB Zch te.zero) te.size p.toNat (fun _ => te.zero) (madeCells z'.cells (p.toNat * i'.size)).toList
       (by simp [size_madeCells, hok'.size]) (by unfold mL; omega) (by
        have h1 := Zc0 hcell (hok'.zeroV w (Own X ι) ι)
        intro v hv
        simp only [madeCells, Array.toList_map, Array.toList_range, List.mem_map, List.mem_range] at hv
        obtain ⟨q, hq, rfl⟩ := hv
        have hpos : 0 < z'.cells.size := by rw [hzn]; rw [hok'.size] at hq; exact Nat.pos_of_ne_zero (fun e => by rw [e] at hq; omega)
        have hlt := Nat.mod_lt q hpos
        rw [getElem!_pos z'.cells _ hlt]
        exact h1 _ (by simp)) (fun j hj => ⟨hz0, fun h => h, ?_⟩) (by
        have : (execOp a.eval o).run P w = .ok (.value (.slice (some ⟨w.heap.size, 0, none⟩) p.toNat p.toNat)) (w.alloc (.cells (madeCells z'.cells (p.toNat * i'.size)) el)) := by
         simp only [execOp, ho, hl.1, hc.1, Sem.run_bind, hrun, Result.andThen_ok, Sem.run_pure]
        simpa using this)
      ·exact hrow
      ·have : ((madeCells z'.cells (p.toNat * i'.size)).toList.drop (j * te.size)).take te.size = z'.cells.toList := by
        apply List.ext_getElem?
        intro x
        rw [List.getElem?_take]
        split
        ·rename_i hx
         rw [List.getElem?_drop]
         have hb' : j * te.size + x < p.toNat * te.size := by
          have : (j + 1) * te.size ≤ p.toNat * te.size := Nat.mul_le_mul_right _ hj
          rw [Nat.succ_mul] at this; omega
         have hx' : x < z'.cells.size := by omega
         simp [madeCells, hok'.size, hb', hzn, Nat.mod_eq_of_lt hx]
         rw [Array.getElem?_eq_getElem hx', getElem!_pos z'.cells x hx']
        ·rename_i hx
         have : z'.cells.toList.length ≤ x := by simp; omega
         simp [List.getElem?_eq_none this]
       rw [this]
       exact hok'.zeroV w (Own X ι) ι
   ·cases he
  ·cases he
 ·cases he
def evMakeFunc (σ : ASt) (fn : Fn) (first captured : List Operand) : Option Ev := match fn, first with
 | .func f, [] => Ev.pure (.fn f (captured.map σ.opv))
 | _, _ => none
theorem ops_V (s : St n X σ ι a w) : ∀ xs : List Operand, Vs w (Own X ι) (xs.map σ.opv) ι (xs.map a.eval)
 | [] => by simp [Vs]
 | x :: xs => by simp only [List.map_cons, Vs]; exact ⟨_, _, rfl, s.opv x, ops_V s xs⟩
theorem evMakeFunc_ok (s : St n X σ ι a w) {o : Oper} {fresh : Id} {fn : Fn} {first captured : Array Operand} {e : Ev}
  (ho : o.op = .makeFunc fn first captured) (he : evMakeFunc σ fn first.toList captured.toList = some e) : OpOk P n X σ ι a w o fresh e.up e.val := by
 unfold evMakeFunc at he
 split at he
 ·rename_i f hf
  cases he
  have h0 : first = #[] := by apply Array.ext'; simpa using hf
  subst h0
  refine OpOk.pure s (.func (.func f) #[] (captured.map a.eval)) ?_ ?_
  ·simp [execOp, ho, Instr.makeFunc]
  ·simp only [V]
   exact ⟨captured.toList.map a.eval, by congr 1; apply Array.ext'; simp, ops_V s captured.toList⟩
 ·cases he
def bound (x : Option AV) (d : Int) : Option Int := match x with
 | none => some d
 | some (.int _ p) => some p
 | some _ => none
def evSlice (T : Zbc) (t : Nat) (x : AV) (lo hi : Option AV) : Option Ev := match T t with
 | some ⟨_, _, .slice el, _⟩ => match T el with
  | some te => match x with
   | .sl sz m f => match bound lo 0, bound hi m with
    | some l, some h => bif Nat.beq te.size sz then some ⟨some (0 ≤ l ∧ l ≤ h ∧ h ≤ (m : Int)), .sl sz (h.toNat - l.toNat) (fun i => f (l.toNat + i)), .none, []⟩ else none
    | _, _ => none
   | .rs id sz st m => match bound lo 0, bound hi m with
    | some l, some h => bif Nat.beq te.size sz then some ⟨some (0 ≤ l ∧ l ≤ h ∧ h ≤ (m : Int)), .rs id sz (st + l.toNat) (h.toNat - l.toNat), .none, []⟩ else none
    | _, _ => none
   | _ => none
  | none => none
 | some ⟨_, _, .string, _⟩ => match x with
  | .str b => match bound lo 0, bound hi b.size with
   | some l, some h => some ⟨some (0 ≤ l ∧ l ≤ h ∧ h ≤ (b.size : Int)), .str (b.extract l.toNat h.toNat), .none, []⟩
   | _, _ => none
  | _ => none
 | _ => none
theorem bound_ok (s : St n X σ ι a w) {x : Option Operand} {d p : Int} (h : bound (x.map σ.opv) d = some p) : (x = none ∧ p = d) ∨ ∃ y k, x = some y ∧ a.eval y = .int k p := by
 cases x with
 | none => simp [bound] at h; exact .inl ⟨rfl, h.symm⟩
 | some y =>
  right
  have hy := s.opv y
  simp only [Option.map_some, bound] at h
  cases hq : σ.opv y <;> simp only [hq] at h hy <;> try (cases h; done)
  cases h
  simp only [V] at hy
  exact ⟨y, _, rfl, hy.1⟩
theorem sliceBounds_ok (s : St n X σ ι a w) (isSlice : Bool) {lo hi : Option Operand} {len cap : Nat} {l h : Int} (hl : bound (lo.map σ.opv) 0 = some l) (hh : bound (hi.map σ.opv) len = some h)
  (h0 : 0 ≤ l) (h1 : l ≤ h) (h2 : h ≤ (len : Int)) (hc : len ≤ cap) :
  (Instr.sliceBounds isSlice len cap (lo.map a.eval) (hi.map a.eval) none).run P w = .ok (l.toNat, h.toNat, cap) w := by
 have h3 : 0 ≤ h := by omega
 have h4 : h ≤ (cap : Int) := by omega
 have h5 : l ≤ (h.toNat : Int) := by omega
 rcases bound_ok s hh with ⟨e, e'⟩ | ⟨y, k, e, e'⟩ <;> rcases bound_ok s hl with ⟨e2, e2'⟩ | ⟨y2, k2, e2, e2'⟩
 ·subst e; subst e2; subst e'; subst e2'
  simp [Instr.sliceBounds]
 ·subst e; subst e2; subst e'
  simp only [Int.toNat_natCast] at h5
  simp [Instr.sliceBounds, e2', Instr.sliceBound, asIntOf, h0, h5]
 ·subst e; subst e2; subst e2'
  simp [Instr.sliceBounds, e', Instr.sliceBound, asIntOf, h3, h4]
 ·subst e; subst e2
  simp [Instr.sliceBounds, e', e2', Instr.sliceBound, asIntOf, h3, h4, h0]
  intro h6; exfalso; omega
theorem evSlice_ok (hT : TOk P T) (s : St n X σ ι a w) {o : Oper} {fresh : Id} {t : Nat} {x : Operand} {lo hi : Option Operand} {e : Ev}
  (ho : o.op = .slice t x lo hi none) (he : evSlice T t (σ.opv x) (lo.map σ.opv) (hi.map σ.opv) = some e) (hb : ∀ p, e.obl = some p → p) : OpOk P n X σ ι a w o fresh e.up e.val := by
 have hx := s.opv x
 unfold evSlice at he
 split at he
 ·rename_i _ _ el _ ht
  obtain ⟨i, d, zv, hok⟩ := hT t _ ht
  have hk := hok.kind
  cases d <;> simp only [TK.rel] at hk
  rename_i el2
  cases hk
  split at he
  ·rename_i te hte
   obtain ⟨i', d', z', hok'⟩ := hT el _ hte
   have run : ∀ p len cap l h, a.eval x = .slice p len cap → bound (lo.map σ.opv) 0 = some l → bound (hi.map σ.opv) len = some h → 0 ≤ l → l ≤ h → h ≤ (len : Int) → len ≤ cap →
     (execOp a.eval o).run P w = .ok (.value (.slice (if cap = l.toNat then p else p.map (·.add (l.toNat * te.size))) (h.toNat - l.toNat) (cap - l.toNat))) w := by
    intro p len cap l h e h1 h2 h3 h4 h5 h6
    have hsb := sliceBounds_ok (P := P) s true h1 h2 h3 h4 h5 h6
    simp only [execOp, ho, Instr.sliceAt, Instr.slice, e, Sem.run_bind, run_underlying hok.und, Result.andThen_ok, Option.map_none, hsb, hok'.sizeOf w, Sem.run_pure]
   cases hq : σ.opv x <;> simp only [hq] at he hx <;> try (cases he; done)
   case sl sz m f =>
    split at he
    ·rename_i l h hl hh
     cases hsz : Nat.beq te.size sz with
     | false => rw [hsz] at he; cases he
     | true =>
      rw [hsz] at he; cases he
      have hsz := Nat.eq_of_beq_eq_true hsz
      subst hsz
      obtain ⟨h0, h1, h2⟩ := hb _ rfl
      simp only [V] at hx
      obtain ⟨p, c, e1, h3, h4, h5⟩ := hx
      refine OpOk.pure s _ (run p m c l h e1 hl hh h0 h1 h2 h3) ?_
      simp only [V]
      refine ⟨_, _, rfl, by omega, by omega, ?_⟩
      by_cases hz : h.toNat - l.toNat = 0
      ·exact .inl hz
      ·right
       rcases h5 with h5 | ⟨b, o', e2, h6, h7, h8⟩
       ·omega
       ·subst e2
        have hne : ¬ c = l.toNat := by omega
        refine ⟨b, o' + l.toNat * te.size, by simp [hne, Zec], h6, h7, fun i hi => ?_⟩
        have := h8 (l.toNat + i) (by omega)
        refine ⟨this.1, ?_⟩
        have e3 : o' + (l.toNat + i) * te.size = o' + l.toNat * te.size + i * te.size := by rw [Nat.add_mul]; omega
        rw [← e3]; exact this.2
    ·cases he
   case rs id sz st m =>
    split at he
    ·rename_i l h hl hh
     cases hsz : Nat.beq te.size sz with
     | false => rw [hsz] at he; cases he
     | true =>
      rw [hsz] at he; cases he
      have hsz := Nat.eq_of_beq_eq_true hsz
      subst hsz
      obtain ⟨h0, h1, h2⟩ := hb _ rfl
      simp only [V] at hx
      cases hli : ι id with
      | none => simp [hli] at hx
      | some lo =>
       cases lo with
       | ghost => simp [hli] at hx
       | nil =>
        simp only [hli] at hx
        obtain ⟨e1, e2, e3⟩ := hx
        subst e2; subst e3
        have hl0 : l = 0 := by omega
        have hh0 : h = 0 := by omega
        subst hl0; subst hh0
        refine OpOk.pure s _ (run none 0 0 0 0 e1 hl hh h0 h1 h2 (Nat.le_refl _)) ?_
        simp [V, hli]
       | «at» b c =>
        simp only [hli] at hx
        obtain ⟨p, e1, h3, h4, h5⟩ := hx
        refine OpOk.pure s _ (run (some p) m (c - st) l h e1 hl hh h0 h1 h2 (by omega)) ?_
        simp only [V, hli]
        by_cases hcl : c - st = l.toNat
        ·refine ⟨p, by simp [hcl]; omega, by omega, by omega, .inl (by omega)⟩
        ·rcases h5 with h5 | h5
         ·omega
         ·subst h5
          refine ⟨⟨b, st * te.size + l.toNat * te.size, none⟩, by simp [hcl, Zec]; omega, by omega, by omega, .inr (by rw [Nat.add_mul])⟩
    ·cases he
  ·cases he
 ·rename_i _ _ _ ht
  obtain ⟨i, d, zv, hok⟩ := hT t _ ht
  have hk := hok.kind
  cases d <;> simp only [TK.rel] at hk
  cases hq : σ.opv x <;> simp only [hq] at he hx <;> try (cases he; done)
  rename_i b
  split at he
  ·rename_i l h hl hh
   cases he
   obtain ⟨h0, h1, h2⟩ := hb _ rfl
   simp only [V] at hx
   have hsb := sliceBounds_ok (P := P) s false hl hh h0 h1 h2 (Nat.le_refl _)
   refine OpOk.pure s (.string (b.extract l.toNat h.toNat)) ?_ (by simp only [V]; exact ⟨trivial, by rw [ByteArray.size_extract]; have := hx.2; omega⟩)
   simp only [execOp, ho, Instr.sliceAt, Instr.slice, hx.1, Sem.run_bind, run_underlying hok.und, Result.andThen_ok, Option.map_none, Option.isSome_none, Bool.false_eq_true, if_false, hsb, Sem.run_pure]
  ·cases he
 ·cases he
def intsK (k : IntKind) : List AV → Option (List Int)
 | [] => some []
 | .int k' p :: r => bif kEq k k' then (match intsK k r with
  | some l => some (p :: l)
  | none => none) else none
 | _ :: _ => none
theorem intsK_V {own : Nat → Prop} {k : IntKind} : ∀ {xs : List AV} {l : List Int} {vs : List Value}, intsK k xs = some l → Vs w own xs ι vs → vs = l.map (Value.int k)
 | [], l, vs, h, hv => by cases h; simp only [Vs] at hv; rw [hv]; rfl
 | x :: r, l, vs, h, hv => by
   cases x <;> simp only [intsK] at h <;> try (cases h; done)
   rename_i k' p
   cases e : kEq k k' with
   | false => rw [e] at h; cases h
   | true =>
    rw [e, cond_true] at h
    cases e2 : intsK k r with
    | none => rw [e2] at h; cases h
    | some l2 =>
     rw [e2] at h
     cases h
     simp only [Vs, V] at hv
     obtain ⟨v, vs', rfl, ⟨h1, _⟩, h3⟩ := hv
     rw [intsK_V e2 h3, h1]
     have : k = k' := by cases k <;> cases k' <;> first | rfl | cases e
     subst this; rfl
theorem eqGuard_arr {t e : TypeId} {m : Nat} {k : IntKind} (hu : P.underlying t = some (.array m e)) (he : P.underlying e = some (.int k)) : P.eqGuardType P.depth t = false := by
 have : P.depth = (2 * (P.types.size + Made.depth)) + 1 + 1 := rfl
 rw [this]
 simp only [Program.eqGuardType, hu, he]
theorem run_items_ints {e : TypeId} {k : IntKind} (he : P.underlying e = some (.int k)) (hp : P.plainKey e = true) {as bs : List Int} (d : Nat) : ∀ (is : List Nat), (∀ i ∈ is, i < as.length ∧ i < bs.length) →
  (Op.eqItems (d + 1) e 1 (as.map (Value.int k)).toArray (bs.map (Value.int k)).toArray is).run P w = .ok (is.all fun i => decide (as.getD i 0 = bs.getD i 0)) w
 | [], _ => by simp [Op.eqItems]
 | i :: is, h => by
   have h1 := h i (List.mem_cons_self ..)
   have ih := run_items_ints he hp (as := as) (bs := bs) d is (fun j hj => h j (List.mem_cons_of_mem _ hj))
   have pa : (part e (as.map (Value.int k)).toArray (i * 1)).run P w = .ok (.int k (as.getD i 0)) w := run_part_plain w hp (by simp [List.getD_eq_getElem?_getD, h1.1])
   have pb : (part e (bs.map (Value.int k)).toArray (i * 1)).run P w = .ok (.int k (bs.getD i 0)) w := run_part_plain w hp (by simp [List.getD_eq_getElem?_getD, h1.2])
   have pc := run_equalIn_int (P := P) (w := w) d e k k (as.getD i 0) (bs.getD i 0) he
   simp only [Op.eqItems, Sem.run_bind, pa, pb, Result.andThen_ok, pc, List.all_cons]
   generalize as.getD i 0 = p
   generalize bs.getD i 0 = q
   by_cases hab : p = q
   ·subst hab
    simpa using ih
   ·have : (p == q) = false := by simpa using hab
    rw [this, decide_eq_false hab]; rfl
theorem run_equal_ints {t e : TypeId} {m : Nat} {k : IntKind} {ti : TypeInfo} (hu : P.underlying t = some (.array m e)) (he : P.underlying e = some (.int k)) (hi : P.info? e = some ti) (h1 : ti.size = 1) {as bs : List Int} (ha : as.length = m) (hb : bs.length = m) :
  (Op.equalIn 10000 t (.agg (as.map (Value.int k)).toArray) (.agg (bs.map (Value.int k)).toArray)).run P w = .ok (decide (as = bs)) w := by
 have hp : P.plainKey e = true := by unfold Program.plainKey; rw [he]
 have hc : P.cellsOf e = 1 := by unfold Program.cellsOf; rw [hi]; simpa using h1
 rw [show (10000 : Nat) = 9998 + 1 + 1 from rfl, run_equalIn_array w (9998 + 1) _ _ hu hi, hc, run_items_ints he hp 9998 (List.range m) (fun i hi => by rw [List.mem_range] at hi; omega)]
 congr 1
 rw [Bool.eq_iff_iff, List.all_eq_true, decide_eq_true_eq]
 constructor
 ·intro h
  apply List.ext_getElem (by omega)
  intro i h2 h3
  have := h i (List.mem_range.2 (by omega))
  rw [decide_eq_true_eq, List.getD_eq_getElem?_getD, List.getD_eq_getElem?_getD, List.getElem?_eq_getElem h2, List.getElem?_eq_getElem h3] at this
  exact this
 ·rintro rfl i _
  simp
def evEq (T : Zbc) (neg : Bool) (t : Nat) (x y : AV) : Option Ev := match T t with
 | some ⟨_, _, .bool, _⟩ => match x, y with
  | .bool p, .bool q => Ev.pure (.bool (bif neg then !decide (p = q) else decide (p = q)))
  | _, _ => none
 | some ⟨_, _, .slice _, _⟩ => match x, y with
  | .nsl, .nsl => Ev.pure (.bool (!neg))
  | .rs _ _ _ m, .nsl => some ⟨some (0 < m), .bool neg, .none, []⟩
  | .sl _ m _, .nsl => some ⟨some (0 < m), .bool neg, .none, []⟩
  | _, _ => none
 | some ⟨_, _, .array m el, _⟩ => match T el with
  | some ⟨sz, _, .int k, _⟩ => match x, y with
   | .agg xs, .agg ys => match intsK k xs, intsK k ys with
    | some as, some bs => bif Nat.beq sz 1 && (Nat.beq as.length m && Nat.beq bs.length m) then Ev.pure (.bool (bif neg then !decide (as = bs) else decide (as = bs))) else none
    | _, _ => none
   | _, _ => none
  | _ => none
 | _ => none
theorem evEq_ok (hT : TOk P T) (s : St n X σ ι a w) {o : Oper} {fresh : Id} {t t' : Nat} {neg : Bool} {x y : Operand} {e : Ev}
  (ho : o.op = .binOp (bif neg then .neq else .eql) t x y t') (he : evEq T neg t (σ.opv x) (σ.opv y) = some e) (hb : ∀ p, e.obl = some p → p) : OpOk P n X σ ι a w o fresh e.up e.val := by
 have hx := s.opv x
 have hy := s.opv y
 unfold evEq at he
 split at he
 ·rename_i _ _ _ ht
  obtain ⟨i, d, zv, hok⟩ := hT t _ ht
  have hk := hok.kind
  cases d <;> simp only [TK.rel] at hk
  split at he
  ·rename_i p q e1 e2
   rw [e1] at hx; rw [e2] at hy
   simp only [V] at hx hy
   cases he
   have hrun := run_eql_bool (P := P) w t p q hok.und
   refine OpOk.pure s (.bool (bif neg then !decide (p = q) else decide (p = q))) ?_ (by simp only [V])
   have e3 : (p == q) = decide (p = q) := by cases p <;> cases q <;> rfl
   have hr2 : (Op.equal t (.bool p) (.bool q)).run P w = .ok (p == q) w := by
    have := hrun
    simp only [binOp, Sem.run_bind] at this
    cases hq : (Op.equal t (.bool p) (.bool q)).run P w with
    | ok b w' => rw [hq] at this; simp at this; obtain ⟨h1, h2⟩ := this; subst h1; subst h2; rfl
    | halt h w' => rw [hq] at this; simp at this
   cases neg with
   | false =>
    simp only [cond_false] at ho ⊢
    simp only [execOp, ho, hx, hy, Sem.run_bind, eqGuard_bool, Result.andThen_ok, binOp, hr2, Sem.run_pure, e3]
   | true =>
    simp only [cond_true] at ho ⊢
    simp only [execOp, ho, hx, hy, Sem.run_bind, eqGuard_bool, Result.andThen_ok, binOp, hr2, Sem.run_pure, e3]
  ·cases he
 ·rename_i _ _ el _ ht
  obtain ⟨i, d, zv, hok⟩ := hT t _ ht
  have hk := hok.kind
  cases d <;> simp only [TK.rel] at hk
  rename_i el2
  cases hk
  have run : ∀ p l c, a.eval x = .slice p l c → a.eval y = .slice none 0 0 → (execOp a.eval o).run P w = .ok (.value (.bool (bif neg then !p.isNone else p.isNone))) w := by
   intro p l c h1 h2
   have hr2 : (Op.equal t (.slice p l c) (.slice none 0 0)).run P w = .ok p.isNone w := by
    simp only [Op.equal, Op.maxDepth]
    exact Lib.run_equalIn_slice_nil w 9999 t el p l c 0 0 hok.und
   cases neg with
   | false =>
    simp only [cond_false] at ho ⊢
    simp only [execOp, ho, h1, h2, Sem.run_bind, Zd9, Result.andThen_ok, binOp, hr2, Sem.run_pure]
   | true =>
    simp only [cond_true] at ho ⊢
    simp only [execOp, ho, h1, h2, Sem.run_bind, Zd9, Result.andThen_ok, binOp, hr2, Sem.run_pure]
  split at he
  ·rename_i e1 e2
   rw [e1] at hx; rw [e2] at hy
   simp only [V] at hx hy
   cases he
   refine OpOk.pure s _ (run _ _ _ hx hy) ?_
   cases neg <;> simp [V]
  ·rename_i id sz st m e1 e2
   rw [e1] at hx; rw [e2] at hy
   simp only [V] at hx hy
   cases he
   have hm : 0 < m := hb _ rfl
   cases hli : ι id with
   | none => simp [hli] at hx
   | some lo => cases lo with
    | ghost => simp [hli] at hx
    | nil => simp only [hli] at hx; omega
    | «at» b c =>
     simp only [hli] at hx
     obtain ⟨p, e3, _⟩ := hx
     refine OpOk.pure s _ (run _ _ _ e3 hy) ?_
     cases neg <;> simp [V]
  ·rename_i sz m f e1 e2
   rw [e1] at hx; rw [e2] at hy
   simp only [V] at hx hy
   cases he
   have hm : 0 < m := hb _ rfl
   obtain ⟨p, c, e3, _, _, h4⟩ := hx
   rcases h4 with h4 | ⟨b, o', e4, _⟩
   ·omega
   ·subst e4
    refine OpOk.pure s _ (run _ _ _ e3 hy) ?_
    cases neg <;> simp [V]
  ·cases he
 ·rename_i _ _ m el _ ht
  obtain ⟨i, d, zv, hok⟩ := hT t _ ht
  have hk := hok.kind
  cases d <;> simp only [TK.rel] at hk
  obtain ⟨rfl, rfl⟩ := hk
  split at he
  ·rename_i sz _ k _ hte
   obtain ⟨i2, d2, zv2, hok2⟩ := hT _ _ hte
   have hk2 := hok2.kind
   cases d2 <;> simp only [TK.rel] at hk2
   subst hk2
   split at he
   ·rename_i xs ys e1 e2
    rw [e1] at hx; rw [e2] at hy
    simp only [V] at hx hy
    obtain ⟨va, h1, h2⟩ := hx
    obtain ⟨vb, h3, h4⟩ := hy
    split at he
    ·rename_i as bs f1 f2
     cases hc : (Nat.beq sz 1 && (Nat.beq as.length m && Nat.beq bs.length m)) with
     | false => rw [hc] at he; cases he
     | true =>
      rw [hc] at he
      rw [Bool.and_eq_true, Bool.and_eq_true] at hc
      have c1 := Nat.eq_of_beq_eq_true hc.1
      have c2 := Nat.eq_of_beq_eq_true hc.2.1
      have c3 := Nat.eq_of_beq_eq_true hc.2.2
      cases he
      have g1 := intsK_V f1 h2
      have g2 := intsK_V f2 h4
      rw [g1] at h1
      rw [g2] at h3
      have hr2 := run_equal_ints (w := w) hok.und hok2.und hok2.info (by rw [hok2.size]; exact c1) c2 c3
      have hr3 : (Op.equal t (.agg (as.map (Value.int k)).toArray) (.agg (bs.map (Value.int k)).toArray)).run P w = .ok (decide (as = bs)) w := hr2
      have hg := eqGuard_arr hok.und hok2.und
      refine OpOk.pure s (.bool (bif neg then !decide (as = bs) else decide (as = bs))) ?_ (by simp only [V])
      cases neg with
      | false =>
       simp only [cond_false] at ho ⊢
       simp only [execOp, ho, h1, h3, Sem.run_bind, run_eqGuard_agg (P := P) (w := w) _ t x y _ _ hg, Result.andThen_ok, binOp, hr3, Sem.run_pure]
      | true =>
       simp only [cond_true] at ho ⊢
       simp only [execOp, ho, h1, h3, Sem.run_bind, run_eqGuard_agg (P := P) (w := w) _ t x y _ _ hg, Result.andThen_ok, binOp, hr3, Sem.run_pure]
    ·cases he
   ·cases he
  ·cases he
 ·cases he
end
section
variable {P : Program} {T : Zbc} {n : Nat} {X : Nat → Prop} {σ : ASt} {ι : Zai} {a : Act} {w : World}
def spl (j n sz : Nat) (cs l : List AV) : List AV := bif Nat.beq n sz then cs else Zev j cs l
def evStore (T : Zbc) (σ : ASt) (t : Nat) (x y : AV) : Option Ev := match T t with
 | some ti => match x with
  | .rp id sz st j => match σ.h id with
   | some (.row imm sz' m f) => bif Nat.beq sz sz' && Nat.ble (j + ti.size) sz && Nat.beq (cellsOf y).length ti.size && allB Zcj (cellsOf y) then
     some ⟨some (st < m), .any, .wr id (imm && allB Zch (cellsOf y)) sz m f st (spl j ti.size sz (cellsOf y) (f st)), [id]⟩
    else none
   | _ => none
  | _ => none
 | none => none
theorem isCell_plain {x : AV} (h : allB Zcj (cellsOf x) = true) : x ≠ .any ∧ ∀ j b y, x ≠ .guard j b y := by
 cases x <;> simp [cellsOf, allB, Zcj] at h <;> simp
theorem splice_length {o : Nat} {cs l : List AV} (h : o + cs.length ≤ l.length) : (Zev o cs l).length = l.length := by
 rw [Zef o cs l h]; simp; omega
theorem Vc_written {w' : World} {own : Nat → Prop} {ι' : Zai} {b : Nat} {arr arr' : Array Value} {t t' : TypeId} (h : w.heap[b]? = some (.cells arr t (0, 0))) (h' : w'.heap[b]? = some (.cells arr' t' (0, 0)))
  {o : Nat} (k : Keep w w' own own) {cs : List AV} (hc : Vc w own cs ι' b o) (hsame : ∀ j, j < cs.length → arr'[o + j]? = arr[o + j]?) : Vc w' own cs ι' b o := by
 induction cs generalizing o with
 | nil => simp [Vc]
 | cons c cs ih =>
  simp only [Vc] at hc ⊢
  obtain ⟨⟨v, e, h0, hv⟩, h2⟩ := hc
  rw [cell_new h] at e
  refine ⟨⟨v, ?_, h0, Zbz k _ _ (Sub.refl _) hv⟩, ih h2 (fun j hj => by have := hsame (j + 1) (by simp; omega); simpa [Nat.add_assoc, Nat.add_comm 1 j] using this)⟩
  rw [cell_new h', ← e]
  simpa using hsame 0 (by simp)
def evStoreB (T : Zbc) (σ : ASt) (t : Nat) (x y : AV) : Option Ev := match x with
 | .bp id j => match T t with
  | some ti => match σ.h id with
   | some (.row imm sz m f) => bif Nat.ble (j + ti.size) sz && Nat.blt 0 m && Nat.beq (cellsOf y).length ti.size && allB Zcj (cellsOf y) then
     some ⟨none, .any, .wr id (imm && allB Zch (cellsOf y)) sz m f 0 (spl j ti.size sz (cellsOf y) (f 0)), [id]⟩
    else none
   | _ => none
  | none => none
 | x => evStore T σ t x y
theorem store_core (s : St n X σ ι a w) {o : Oper} {fresh : Id} {t : Nat} {x y : Operand} {ti : TI} {i : TypeInfo} {d : TypeDesc} {zv : Value} (hok : ti.Ok P t i d zv)
  (ho : o.op = .store t x y) {id : Id} {imm : Bool} {sz m j st b c : Nat} {f : Nat → List AV} (hh : σ.h id = some (.row imm sz m f)) (hl : ι id = some (.at b c)) (hx : a.eval x = .pointer (some ⟨b, st * sz + j, none⟩))
  (h2 : j + ti.size ≤ sz) (h3 : (cellsOf (σ.opv y)).length = ti.size) (h4 : allB Zcj (cellsOf (σ.opv y)) = true) (hst : st < m) :
  OpOk P n X σ ι a w o fresh (.wr id (imm && allB Zch (cellsOf (σ.opv y))) sz m f st (Zev j (cellsOf (σ.opv y)) (f st))) .any := by
 have hy := s.opv y
 obtain ⟨us, e1, hV⟩ := V_cells hy (isCell_plain h4).1 (isCell_plain h4).2
 have hul : us.length = ti.size := by rw [← Zby hV, h3]
 obtain ⟨arr, TT, hcell, hmc, hsz, hrow⟩ := s.sim.rel id _ _ hh hl
 obtain ⟨hfl, hfc⟩ := hrow st hst
 have hle : (st + 1) * sz ≤ arr.size := by rw [hsz]; exact Nat.mul_le_mul_right _ (by omega)
 rw [Nat.succ_mul] at hle
 have hfit : st * sz + j + us.length ≤ arr.size := by omega
 have hstore := run_storeCells_at P b (st * sz + j) TT us 0 arr w hcell (by simpa using hfit) (Zc0 h4 hV)
 simp only [Nat.add_zero] at hstore
 have harr : ∀ arr', arr' = (arr.toList.take (st * sz + j) ++ us ++ arr.toList.drop (st * sz + j + us.length)).toArray → arr'.size = arr.size ∧
   (∀ q, (q < st * sz + j ∨ st * sz + j + us.length ≤ q) → arr'[q]? = arr[q]?) ∧ ∀ q v, us[q]? = some v → arr'[st * sz + j + q]? = some v := by
  intro arr' e
  subst e
  refine ⟨by simp; omega, fun q hq => ?_, fun q v hv => ?_⟩
  ·rcases hq with hq | hq
   ·have : q < (arr.toList.take (st * sz + j)).length := by simp; omega
    simp [List.getElem?_append_left, this, List.getElem?_take, hq]
    rw [List.getElem?_append_left (by simp; omega), List.getElem?_take]
    simp [hq]
   ·simp
    rw [List.getElem?_append_right (by simp; omega), List.getElem?_append_right (by simp; omega), List.getElem?_drop]
    simp
    congr 1
    omega
  ·have hq := (List.getElem?_eq_some_iff.1 hv).1
   simp
   rw [List.getElem?_append_right (by simp; omega), List.getElem?_append_left (by simp; omega)]
   rw [← hv]; congr 1; simp; omega
 obtain ⟨hs1, hs2, hs3⟩ := harr _ rfl
 generalize hA : (arr.toList.take (st * sz + j) ++ us ++ arr.toList.drop (st * sz + j + us.length)).toArray = arr' at *
 have hnew : (w.setRow b arr').heap[b]? = some (.cells arr' TT (0, 0)) := setRow_heap w b arr arr' TT _ hcell
 obtain ⟨s', k⟩ := s.sim.write (w' := w.setRow b arr') hl (.row (imm && allB Zch (cellsOf (σ.opv y))) sz m (updR f st (Zev j (cellsOf (σ.opv y)) (f st)))) (by simp)
  (fun q hq => setRow_other w b q _ hq) (fun k => by
   refine ⟨arr', TT, hnew, hmc, by omega, fun r hr => ?_⟩
   obtain ⟨hrl, hrc⟩ := hrow r hr
   by_cases hrs : r = st
   ·subst hrs
    simp only [updR, Nat.beq_refl, cond_true]
    refine ⟨by rw [splice_length (by omega)]; exact hfl, ?_⟩
    rw [Zef j _ _ (by omega)]
    have hold : Vc w (Own X ι) (f r) (bif imm && allB Zch (cellsOf (σ.opv y)) then ι0 else ι) b (r * sz) := by
     cases hi : (imm && allB Zch (cellsOf (σ.opv y))) with
     | true =>
      simp only [Bool.and_eq_true] at hi
      rw [hi.1] at hrc; exact hrc
     | false => exact Zcn imm _ _ _ hrc
    have hnewV : Vs (w.setRow b arr') (Own X ι) (cellsOf (σ.opv y)) (bif imm && allB Zch (cellsOf (σ.opv y)) then ι0 else ι) us := by
     have := Zdr k _ us (Sub.refl _) hV
     refine Vs_imm' (fun hi => ?_) this
     simp only [Bool.and_eq_true] at hi
     exact hi.2
    have p1 := Vc_written hcell hnew k (Vc_take j hold) (fun q hq => hs2 _ (.inl (by simp at hq; omega)))
    have p2 : Vc (w.setRow b arr') (Own X ι) (cellsOf (σ.opv y)) (bif imm && allB Zch (cellsOf (σ.opv y)) then ι0 else ι) b (r * sz + j) := Vc_row hnew hnewV (fun q v hq => hs3 q v hq) (Zc0 h4 hV)
    have p3 := Vc_written hcell hnew k (Vc_drop (j + (cellsOf (σ.opv y)).length) hold) (fun q hq => hs2 _ (.inr (by omega)))
    have app : ∀ (as bs : List AV) (o : Nat), Vc (w.setRow b arr') (Own X ι) as (bif imm && allB Zch (cellsOf (σ.opv y)) then ι0 else ι) b o →
      Vc (w.setRow b arr') (Own X ι) bs (bif imm && allB Zch (cellsOf (σ.opv y)) then ι0 else ι) b (o + as.length) → Vc (w.setRow b arr') (Own X ι) (as ++ bs) (bif imm && allB Zch (cellsOf (σ.opv y)) then ι0 else ι) b o := by
     intro as
     induction as with
     | nil => intro bs o _ h; simpa using h
     | cons x as ih =>
      intro bs o h1 h2
      simp only [Vc, List.cons_append] at h1 ⊢
      exact ⟨h1.1, ih bs (o + 1) h1.2 (by simpa [Nat.add_assoc, Nat.add_comm 1] using h2)⟩
    refine app _ _ _ (app _ _ _ p1 ?_) ?_
    ·have : ((f r).take j).length = j := by simp; omega
     rw [this]; exact p2
    ·have : ((f r).take j ++ cellsOf (σ.opv y)).length = j + (cellsOf (σ.opv y)).length := by simp; omega
     rw [this]; exact p3
   ·have hne : Nat.beq st r = false := by
     cases hbq : Nat.beq st r with
     | true => exact absurd (Nat.eq_of_beq_eq_true hbq).symm hrs
     | false => rfl
    simp only [updR, hne, cond_false]
    refine ⟨hrl, ?_⟩
    have hold : Vc w (Own X ι) (f r) (bif imm && allB Zch (cellsOf (σ.opv y)) then ι0 else ι) b (r * sz) := by
     cases hi : (imm && allB Zch (cellsOf (σ.opv y))) with
     | true =>
      simp only [Bool.and_eq_true] at hi
      rw [hi.1] at hrc; exact hrc
     | false => exact Zcn imm _ _ _ hrc
    refine Vc_written hcell hnew k hold (fun q hq => hs2 _ ?_)
    rcases Nat.lt_or_gt_of_ne hrs with hlt | hgt
    ·left
     have : (r + 1) * sz ≤ st * sz := Nat.mul_le_mul_right _ hlt
     rw [Nat.succ_mul] at this; omega
    ·right
     have : (st + 1) * sz ≤ r * sz := Nat.mul_le_mul_right _ hgt
     rw [Nat.succ_mul] at this; omega)
 refine ⟨.skip, undef, w.setRow b arr', ι, ?_, .inr ⟨rfl, rfl⟩, s', fun y u' hy => Zbz k y u' (Sub.refl _) hy, by simp [V], ⟨⟨rfl, rfl, rfl, by simp, fun b' _ hno => setRow_other w b b' _ (fun e' => hno (e' ▸ ⟨id, c, hl⟩)), fun a _ => setRow_fz hcell a⟩, fun _ h => .inl h⟩⟩
 have hne : ¬ (us.length ≠ ti.size) := by omega
 simp only [execOp, ho, Instr.storeAt, hx, Instr.sureAddr, Sem.run_bind, Sem.run_pure, Result.andThen_ok, storeVar, e1, List.size_toArray, hok.sizeOf w]
 simp [hne, hstore]
theorem spl_core (s : St n X σ ι a w) {o : Oper} {fresh : Id} {t : Nat} {x y : Operand} {ti : TI} {i : TypeInfo} {d : TypeDesc} {zv : Value} (hok : ti.Ok P t i d zv)
  (ho : o.op = .store t x y) {id : Id} {imm : Bool} {sz m j st b c : Nat} {f : Nat → List AV} (hh : σ.h id = some (.row imm sz m f)) (hl : ι id = some (.at b c)) (hx : a.eval x = .pointer (some ⟨b, st * sz + j, none⟩))
  (h2 : j + ti.size ≤ sz) (h3 : (cellsOf (σ.opv y)).length = ti.size) (h4 : allB Zcj (cellsOf (σ.opv y)) = true) (hst : st < m) :
  OpOk P n X σ ι a w o fresh (.wr id (imm && allB Zch (cellsOf (σ.opv y))) sz m f st (spl j ti.size sz (cellsOf (σ.opv y)) (f st))) .any := by
 have h := store_core (fresh := fresh) s hok ho hh hl hx h2 h3 h4 hst
 unfold spl
 cases e : Nat.beq ti.size sz with
 | false => exact h
 | true =>
  have e := Nat.eq_of_beq_eq_true e
  have hj : j = 0 := by omega
  subst hj
  obtain ⟨arr, T0, _, _, _, hr⟩ := s.sim.rel id _ _ hh hl
  have hlen := (hr st hst).1
  have : Zev 0 (cellsOf (σ.opv y)) (f st) = cellsOf (σ.opv y) := by
   rw [Zef 0 _ _ (by omega)]
   simp only [List.take_zero, List.nil_append, Nat.zero_add]
   rw [List.drop_of_length_le (by omega), List.append_nil]
  rw [this] at h
  exact h
theorem evStore_ok (hT : TOk P T) (s : St n X σ ι a w) {o : Oper} {fresh : Id} {t : Nat} {x y : Operand} {e : Ev}
  (ho : o.op = .store t x y) (he : evStore T σ t (σ.opv x) (σ.opv y) = some e) (hb : ∀ p, e.obl = some p → p) : OpOk P n X σ ι a w o fresh e.up e.val := by
 have hx := s.opv x
 unfold evStore at he
 cases ht : T t with
 | none => rw [ht] at he; cases he
 | some ti =>
  rw [ht] at he
  simp only at he
  obtain ⟨i, d, zv, hok⟩ := hT t _ ht
  cases hq : σ.opv x <;> simp only [hq] at he hx <;> try (cases he; done)
  rename_i id sz st j
  cases hh : σ.h id with
  | none => simp [hh] at he
  | some blk =>
   cases blk with
   | map _ => simp [hh] at he
   | row imm sz' m f =>
    simp only [hh] at he
    cases hg : (Nat.beq sz sz' && Nat.ble (j + ti.size) sz && Nat.beq (cellsOf (σ.opv y)).length ti.size && allB Zcj (cellsOf (σ.opv y))) with
    | false => rw [hg] at he; cases he
    | true =>
     rw [hg] at he
     simp only [cond_true] at he
     cases he
     simp only [Bool.and_eq_true] at hg
     obtain ⟨⟨⟨h1, h2⟩, h3⟩, h4⟩ := hg
     have h1 := Nat.eq_of_beq_eq_true h1
     have h2 := Nat.le_of_ble_eq_true h2
     have h3 := Nat.eq_of_beq_eq_true h3
     subst h1
     have hst : st < m := hb _ rfl
     simp only [V] at hx
     cases hl : ι id with
     | none => simp [hl] at hx
     | some l =>
      cases l with
      | ghost => simp [hl] at hx
      | nil => simp [hl] at hx
      | «at» b c =>
       simp only [hl] at hx
       exact spl_core s hok ho hh hl hx h2 h3 h4 hst
theorem evStoreB_ok (hT : TOk P T) (s : St n X σ ι a w) {o : Oper} {fresh : Id} {t : Nat} {x y : Operand} {e : Ev}
  (ho : o.op = .store t x y) (he : evStoreB T σ t (σ.opv x) (σ.opv y) = some e) (hb : ∀ p, e.obl = some p → p) : OpOk P n X σ ι a w o fresh e.up e.val := by
 unfold evStoreB at he
 split at he
 ·rename_i id j hq
  have hx := s.opv x
  rw [hq] at hx
  cases ht : T t with
  | none => rw [ht] at he; cases he
  | some ti =>
   rw [ht] at he
   simp only at he
   obtain ⟨i, d, zv, hok⟩ := hT t _ ht
   cases hh : σ.h id with
   | none => simp [hh] at he
   | some blk =>
    cases blk with
    | map _ => simp [hh] at he
    | row imm sz m f =>
     simp only [hh] at he
     cases hg : (Nat.ble (j + ti.size) sz && Nat.blt 0 m && Nat.beq (cellsOf (σ.opv y)).length ti.size && allB Zcj (cellsOf (σ.opv y))) with
     | false => rw [hg] at he; cases he
     | true =>
      rw [hg] at he
      simp only [cond_true] at he
      cases he
      simp only [Bool.and_eq_true] at hg
      obtain ⟨⟨⟨h2, h1⟩, h3⟩, h4⟩ := hg
      have h2 := Nat.le_of_ble_eq_true h2
      have h3 := Nat.eq_of_beq_eq_true h3
      have hst : 0 < m := by simpa [Nat.blt_eq] using h1
      simp only [V] at hx
      cases hl : ι id with
      | none => simp [hl] at hx
      | some l =>
       cases l with
       | ghost => simp [hl] at hx
       | nil => simp [hl] at hx
       | «at» b c =>
        simp only [hl] at hx
        exact spl_core s hok ho hh hl (by simpa using hx) h2 h3 h4 hst
 ·exact evStore_ok hT s ho he hb
end
section
variable {P : Program} {T : Zbc} {n : Nat} {X : Nat → Prop} {σ : ASt} {ι : Zai} {a : Act} {w : World}
theorem Vc_to_Vs {own : Nat → Prop} {ι' : Zai} {b : Nat} {arr : Array Value} {t : TypeId} (h : w.heap[b]? = some (.cells arr t (0, 0))) : ∀ {cs : List AV} {o : Nat}, Vc w own cs ι' b o → Vs w own cs ι' ((arr.toList.drop o).take cs.length)
 | [], o, _ => by simp [Vs]
 | c :: cs, o, hc => by
   simp only [Vc] at hc
   obtain ⟨⟨v, e, _, hv⟩, h2⟩ := hc
   rw [cell_new h] at e
   have hlt : o < arr.toList.length := by have := (Array.getElem?_eq_some_iff.1 e).1; simpa using this
   have e' : arr.toList[o] = v := by have := (Array.getElem?_eq_some_iff.1 e).2; simpa using this
   rw [List.drop_eq_getElem_cons hlt]
   simp only [List.length_cons, List.take_succ_cons, Vs]
   exact ⟨_, _, rfl, e' ▸ hv, Vc_to_Vs h h2⟩
structure Src (P : Program) (w : World) (own : Nat → Prop) (ι : Zai) (imm : Bool) (sz m : Nat) (g : Nat → List AV) (v : Value) (news : List Value) : Prop where
 len : (Builtin.lenOf v).run P w = .ok m w
 first : ∀ w' : World, w'.heap = w.heap → (Builtin.firstCells sz m v).run P w' = .ok news.toArray w'
 size : news.length = m * sz
 small : m ≤ mL
 one : ∀ v ∈ news, v.oneCell' = true
 rows : ∀ i, i < m → (g i).length = sz ∧ Vs w own (g i) (bif imm then ι0 else ι) ((news.drop (i * sz)).take sz)
theorem Zdw {own : Nat → Prop} {ι' : Zai} {imm : Bool} {sz m c b o : Nat} {g : Nat → List AV} (hm : m ≤ mL) (p : Option Addr)
  (hp : m = 0 ∨ p = some ⟨b, o, none⟩) (h0 : m = 0 → ∀ q, p = some q → True)
  (hrow : ∀ i, i < m → (g i).length = sz ∧ Vc w own (g i) (bif imm then ι0 else ι') b (o + i * sz)) :
  ∃ news, Src P w own ι' imm sz m g (.slice p m c) news := by
 have all : ∀ k, k ≤ m → ∃ news : List Value, news.length = k * sz ∧ (∀ j v, news[j]? = some v → w.cell? ⟨b, o + j, none⟩ = some v) ∧
   (∀ v ∈ news, v.oneCell' = true) ∧ ∀ i, i < k → Vs w own (g i) (bif imm then ι0 else ι') ((news.drop (i * sz)).take sz) := by
  intro k
  induction k with
  | zero => intro _; exact ⟨[], by simp, by simp, by simp, fun i hi => by omega⟩
  | succ k ih =>
   intro hk
   obtain ⟨news, hl, hc, h9, hr⟩ := ih (by omega)
   obtain ⟨h1, h2⟩ := hrow k (by omega)
   obtain ⟨vs, hvl, hvc, hvV, h8⟩ := Vc_read h2
   refine ⟨news ++ vs, by rw [List.length_append, hl, hvl, h1, Nat.succ_mul], fun j v hj => ?_, fun v hv => (List.mem_append.1 hv).elim (h9 v) (h8 v), fun i hi => ?_⟩
   ·by_cases hlt : j < news.length
    ·rw [List.getElem?_append_left hlt] at hj; exact hc j v hj
    ·rw [List.getElem?_append_right (by omega)] at hj
     have := hvc _ v hj
     rw [hl] at this
     rw [show o + j = o + k * sz + (j - k * sz) by omega]; exact this
   ·by_cases hik : i < k
    ·have hle : i * sz + sz ≤ news.length := by
      rw [hl, ← Nat.succ_mul]; exact Nat.mul_le_mul_right _ hik
     rw [List.drop_append_of_le_length (by omega), List.take_append_of_le_length (by simp; omega)]
     exact hr i hik
    ·have : i = k := by omega
     subst this
     rw [← hl, List.drop_left, List.take_of_length_le (by omega)]
     exact hvV
 obtain ⟨news, hl, hc, h9, hr⟩ := all m (Nat.le_refl _)
 refine ⟨news, ⟨by simp [Builtin.lenOf], fun w' hw' => ?_, hl, hm, h9, fun i hi => ⟨(hrow i hi).1, hr i hi⟩⟩⟩
 rcases hp with hp | hp
 ·subst hp
  have : news = [] := List.eq_nil_of_length_eq_zero (by simpa using hl)
  subst this
  cases p with
  | none => simp [Builtin.firstCells]
  | some q => simp [Builtin.firstCells, loadCells, loadCellsFrom]
 ·subst hp
  exact run_firstCells_some w' sz m _ m c news hl (fun j v hj => by rw [Zec]; have := hc j v hj; simpa [World.cell?, hw'] using this)
def srcOf (σ : ASt) (sz : Nat) (y : AV) : Option (Bool × Nat × (Nat → List AV) × Option Id) := match y with
 | .sl sz' m g => bif Nat.beq sz sz' then some (true, m, g, none) else none
 | .nsl => some (true, 0, fun _ => [], none)
 | .rs id sz' st m => match σ.h id with
  | some (.row imm sz'' k g) => bif Nat.beq sz sz' && Nat.beq sz sz'' then some (imm, m, fun i => g (st + i), some id) else none
  | _ => none
 | _ => none
def srcObl (σ : ASt) (y : AV) : Prop := match y with
 | .rs id _ st m => match σ.h id with
  | some (.row _ _ k _) => st + m ≤ k
  | _ => False
 | _ => True
theorem srcOf_ok (s : St n X σ ι a w) {y : Operand} {sz : Nat} {imm : Bool} {m : Nat} {g : Nat → List AV} {oid : Option Id}
  (h : srcOf σ sz (σ.opv y) = some (imm, m, g, oid)) (hb : srcObl σ (σ.opv y)) : ∃ news, Src P w (Own X ι) ι imm sz m g (a.eval y) news := by
 have hy := s.opv y
 unfold srcOf at h
 cases hq : σ.opv y <;> simp only [hq] at h hy hb <;> try (cases h; done)
 case nsl =>
  cases h
  simp only [V] at hy
  rw [hy]
  exact Zdw (b := 0) (o := 0) (Nat.zero_le _) none (.inl rfl) (fun _ _ _ => trivial) (fun i hi => by omega)
 case sl sz' m' f =>
  cases hz : Nat.beq sz sz' with
  | false => rw [hz] at h; cases h
  | true =>
   rw [hz] at h; cases h
   have hz := Nat.eq_of_beq_eq_true hz
   subst hz
   simp only [V] at hy
   obtain ⟨p, c, e1, _, h3, h4⟩ := hy
   rw [e1]
   rcases h4 with h4 | ⟨b, o, e2, _, _, h5⟩
   ·subst h4
    exact Zdw (b := 0) (o := 0) h3 p (.inl rfl) (fun _ _ _ => trivial) (fun i hi => by omega)
   ·exact Zdw (b := b) (o := o) h3 p (.inr e2) (fun _ _ _ => trivial) h5
 case rs id sz' st m' =>
  cases hh : σ.h id with
  | none => simp [hh] at h
  | some blk =>
   cases blk with
   | map _ => simp [hh] at h
   | row imm' sz'' k f =>
    simp only [hh] at h
    simp only [srcObl, hh] at hb
    cases hz : (Nat.beq sz sz' && Nat.beq sz sz'') with
    | false => rw [hz] at h; cases h
    | true =>
     rw [hz] at h; cases h
     simp only [Bool.and_eq_true] at hz
     have h1 := Nat.eq_of_beq_eq_true hz.1
     have h2 := Nat.eq_of_beq_eq_true hz.2
     subst h1; subst h2
     simp only [V] at hy
     cases hl : ι id with
     | none => simp [hl] at hy
     | some l =>
      cases l with
      | ghost => simp [hl] at hy
      | nil =>
       simp only [hl] at hy
       obtain ⟨e1, e2, e3⟩ := hy
       subst e2; subst e3
       rw [e1]
       exact Zdw (b := 0) (o := 0) (Nat.zero_le _) none (.inl rfl) (fun _ _ _ => trivial) (fun i hi => by omega)
      | «at» b c =>
       simp only [hl] at hy
       obtain ⟨p, e1, h3, h4, h5⟩ := hy
       rw [e1]
       obtain ⟨arr, TT, _, _, _, hrow⟩ := s.sim.rel id _ _ hh hl
       refine Zdw (b := b) (o := st * sz) h4 (some p) ?_ (fun _ _ _ => trivial) (fun i hi => ?_)
       ·rcases h5 with h5 | h5
        ·left; omega
        ·right; rw [h5]
       ·have := hrow (st + i) (by omega)
        refine ⟨this.1, ?_⟩
        rw [← Nat.add_mul]; exact this.2
def apartId (o : Option Id) (i : Id) : Bool := match o with
 | none => true
 | some j => !idEq j i
theorem Zen (F g : Nat → List AV) (i : Nat) : appR 0 F g i = g i := by
 have : Nat.blt i 0 = false := rfl
 simp [appR, this]
theorem arr_app (olds news : List Value) (z : Array Value) : olds.toArray ++ news.toArray ++ z = (olds ++ news ++ z.toList).toArray := by
 apply Array.ext'; simp
def evAppend (T : Zbc) (σ : ASt) (fresh : Id) (t t' : Nat) (x y : AV) : Option Ev := match T t with
 | some ⟨_, _, .slice el, _⟩ => match T t' with
  | some ⟨_, _, .slice _, _⟩ => match T el with
   | some te => bif Nat.ble te.bytes 4096 && Nat.ble 1 te.size then match srcOf σ te.size y with
    | some (immY, m, g, oid) => match x with
     | .nsl => match σ.h fresh with
      | none => some ⟨some (srcObl σ y ∧ m ≤ mL), .rs fresh te.size 0 m, .alloc (.row immY te.size m g), match oid with | none => [] | some i => [i]⟩
      | some _ => none
     | .rs id sz st len => match σ.h id with
      | some (.row imm sz' k f) => bif Nat.beq sz te.size && Nat.beq sz' te.size && Nat.beq st 0 && apartId oid id then match σ.h fresh with
       | none => some ⟨some (srcObl σ y ∧ len ≤ k ∧ len + m ≤ mL), .rs fresh te.size 0 (len + m),
         .move id (.row (imm && immY) te.size (len + m) (bif imm && immY then appR len f g else fun i => Zb4 (kill id) (appR len f g i))), match oid with | none => [id] | some i => [id, i]⟩
       | some _ => none
       else none
      | _ => none
     | _ => none
    | none => none
    else none
   | none => none
  | _ => none
 | _ => none
theorem run_append_to {t t' e e' : TypeId} (ty : TypeId) {i : TypeInfo} {z : Value} (ht : P.underlying t = some (.slice e)) (ht' : P.underlying t' = some (.slice e')) (hi : P.info? e = some i) (hz : i.zero = some z)
  {p : Option Addr} {len cap m : Nat} {olds news : List Value} {y : Value} (hy : (Builtin.lenOf y).run P w = .ok m w) (hn : ∀ w' : World, w'.heap = w.heap → (Builtin.firstCells i.size m y).run P w' = .ok news.toArray w')
  (ho : ∀ w' : World, w'.heap = w.heap → (Builtin.firstCells i.size len (.slice p len cap)).run P w' = .ok olds.toArray w')
  (hg : cap < len + m) (h63 : len + m ≤ mL) (hby : i.bytes ≤ 4096) :
  (Builtin.append_ #[t, t'] ty #[.slice p len cap, y]).run P w = .ok (.slice (some ⟨w.heap.size, 0, none⟩) (len + m) (grownCap w (len + m) cap e))
    (w.drew.alloc (.cells (olds.toArray ++ news.toArray ++ Builtin.zeroCells z.cells (grownCap w (len + m) cap e - (len + m))) e)) := by
 have hfit : Builtin.nextslicecap (len + m) cap * i.bytes ≤ 281474976710656 := growslice_fits hg (by
  unfold mL at h63
  calc (len + m) * i.bytes ≤ 4294967296 * 4096 := Nat.mul_le_mul h63 hby
   _ ≤ _ := by omega)
 have hroom : ¬ (len + m ≤ cap) := by omega
 have hbig : ¬ (9223372036854775807 < ((len : Int) + (m : Int))) := by unfold mL at h63; omega
 have hfit' : ¬ (281474976710656 < Builtin.nextslicecap (len + m) cap * i.bytes) := by omega
 have hn' := hn w.drew rfl
 have ho' := ho w.drew rfl
 simp [Builtin.append_, run_underlying ht, run_underlying ht', Go.sizeOf, typeInfo, zeroValue, hi, hz, hy, hroom, hbig, hfit', Question.forced, hn', ho', newRow, grownCap]
 congr 2
 apply Array.ext'
 simp [List.append_assoc]
theorem run_append_in {t t' e e' : TypeId} (ty : TypeId) {i : TypeInfo} (ht : P.underlying t = some (.slice e)) (ht' : P.underlying t' = some (.slice e')) (hi : P.info? e = some i)
  {g len cap m : Nat} {cur : Array Value} {T0 : TypeId} {news : List Value} {y : Value} (hg : w.heap[g]? = some (.cells cur T0 (0, 0))) (hy : (Builtin.lenOf y).run P w = .ok m w)
  (hn : ∀ w' : World, w'.heap = w.heap → (Builtin.firstCells i.size m y).run P w' = .ok news.toArray w') (h1 : ∀ v ∈ news, v.oneCell' = true)
  (hroom : len + m ≤ cap) (hfit : len * i.size + news.length ≤ cur.size) :
  (Builtin.append_ #[t, t'] ty #[.slice (some ⟨g, 0, none⟩) len cap, y]).run P w =
   .ok (.slice (some ⟨g, 0, none⟩) (len + m) cap) (w.setRow g (cur.toList.take (len * i.size) ++ news ++ cur.toList.drop (len * i.size + news.length)).toArray) := by
 have hst := run_storeCells_at P g (len * i.size) T0 news 0 cur w hg (by simpa using hfit) h1
 simp only [Nat.add_zero] at hst
 have hn' := hn w rfl
 simp [Builtin.append_, run_underlying ht, run_underlying ht', Go.sizeOf, typeInfo, hi, hy, hroom, hn', Zec, hst]
theorem Zei {t t' e e' : TypeId} (ty : TypeId) {i : TypeInfo} (ht : P.underlying t = some (.slice e)) (ht' : P.underlying t' = some (.slice e')) (hi : P.info? e = some i)
  {p : Option Addr} {len cap : Nat} {y : Value} (hy : (Builtin.lenOf y).run P w = .ok 0 w) (hn : (Builtin.firstCells i.size 0 y).run P w = .ok #[] w) (hroom : len ≤ cap) :
  (Builtin.append_ #[t, t'] ty #[.slice p len cap, y]).run P w = .ok (.slice p len cap) w := by
 cases p <;> simp [Builtin.append_, run_underlying ht, run_underlying ht', Go.sizeOf, typeInfo, hi, hy, hroom, hn, storeCells]
theorem rows_new {w' : World} {own : Nat → Prop} {ι' : Zai} {imm : Bool} {sz k m b : Nat} {F G : Nat → List AV} {olds news rest : List Value} {ty : TypeId}
  (h : w'.heap[b]? = some (.cells (olds ++ news ++ rest).toArray ty (0, 0))) (hol : olds.length = k * sz) (hnl : news.length = m * sz) (ho1 : ∀ v ∈ olds, v.oneCell' = true) (hn1 : ∀ v ∈ news, v.oneCell' = true)
  (hF : ∀ i, i < k → (F i).length = sz ∧ Vs w' own (F i) (bif imm then ι0 else ι') ((olds.drop (i * sz)).take sz))
  (hG : ∀ i, i < m → (G i).length = sz ∧ Vs w' own (G i) (bif imm then ι0 else ι') ((news.drop (i * sz)).take sz)) :
  ∀ i, i < k + m → (appR k F G i).length = sz ∧ Vc w' own (appR k F G i) (bif imm then ι0 else ι') b (i * sz) := by
 intro i hi
 by_cases hik : i < k
 ·have e : Nat.blt i k = true := by simpa [Nat.blt_eq] using hik
  simp only [appR, e, cond_true]
  obtain ⟨h1, h2⟩ := hF i hik
  refine ⟨h1, Vc_row h h2 (fun j v hj => ?_) (fun v hv => ho1 v (List.mem_of_mem_drop (List.mem_of_mem_take hv)))⟩
  rw [List.getElem?_take] at hj
  split at hj
  ·rw [List.getElem?_drop] at hj
   have hlt := (List.getElem?_eq_some_iff.1 hj).1
   simp only [List.getElem?_toArray]
   rw [List.getElem?_append_left (by simp; omega), List.getElem?_append_left hlt]; exact hj
  ·cases hj
 ·have e : Nat.blt i k = false := by
   cases hb : Nat.blt i k with
   | true => exact absurd (by simpa [Nat.blt_eq] using hb) hik
   | false => rfl
  simp only [appR, e, cond_false]
  obtain ⟨h1, h2⟩ := hG (i - k) (by omega)
  refine ⟨h1, Vc_row h h2 (fun j v hj => ?_) (fun v hv => hn1 v (List.mem_of_mem_drop (List.mem_of_mem_take hv)))⟩
  rw [List.getElem?_take] at hj
  split at hj
  ·rw [List.getElem?_drop] at hj
   have hlt := (List.getElem?_eq_some_iff.1 hj).1
   simp only [List.getElem?_toArray]
   have hidx : i * sz = olds.length + (i - k) * sz := by rw [hol, ← Nat.add_mul]; congr 1; omega
   rw [List.getElem?_append_left (by simp; omega), List.getElem?_append_right (by omega)]
   rw [← hj]; congr 1; omega
  ·cases hj
theorem kill_sub {i : Id} {ι ι' : Zai} (h : ∀ j, j ≠ i → ι' j = ι j) : ∀ a b, kill i a = some b → ι' b = ι a := by
 intro a b e
 obtain ⟨h1, rfl⟩ := kill_some e
 exact h b h1
theorem evAppend_ok (hT : TOk P T) (s : St n X σ ι a w) {o : Oper} {fresh : Id} {c : Call} {t t' : Nat} {x y : Operand} {e : Ev}
  (ho : o.op = .call c) (hc : c.callee = .builtin .append) (ha : c.args = #[x, y]) (hat : c.argTypes = #[t, t']) (he : evAppend T σ fresh t t' (σ.opv x) (σ.opv y) = some e) (hb : ∀ p, e.obl = some p → p) :
  OpOk P n X σ ι a w o fresh e.up e.val := by
 have hx := s.opv x
 have run : ∀ v w', (Builtin.append_ #[t, t'] o.type #[a.eval x, a.eval y]).run P w = .ok v w' → (execOp a.eval o).run P w = .ok (.value v) w' := by
  intro v w' h
  simp only [execOp, ho, resolve, hc, ha, hat, Sem.run_bind, Sem.run_pure, Result.andThen_ok, invoke]
  simp [builtin, h]
 unfold evAppend at he
 split at he
 ·rename_i _ _ el _ ht
  obtain ⟨i, d, zv, hok⟩ := hT t _ ht
  have hk := hok.kind
  cases d <;> simp only [TK.rel] at hk
  rename_i el2
  cases hk
  split at he
  ·rename_i _ _ elq _ htq
   obtain ⟨iq, dq, zq, hokq⟩ := hT t' _ htq
   have hkq := hokq.kind
   cases dq <;> simp only [TK.rel] at hkq
   rename_i elq2
   cases hkq
   split at he
   ·rename_i te hte
    obtain ⟨i', d', z', hok'⟩ := hT el _ hte
    cases hcheck : (Nat.ble te.bytes 4096 && Nat.ble 1 te.size) with
    | false => rw [hcheck] at he; cases he
    | true =>
     rw [hcheck] at he
     simp only [cond_true] at he
     simp only [Bool.and_eq_true] at hcheck
     have hby : i'.bytes ≤ 4096 := by rw [hok'.bytes]; exact Nat.le_of_ble_eq_true hcheck.1
     have h1s : 1 ≤ te.size := Nat.le_of_ble_eq_true hcheck.2
     have hsz := hok'.size
     have hz0 : z'.cells.size = te.size := hok'.zeroN
     split at he
     ·rename_i immY m g oid hsrc
      have hzc : ∀ q, (Builtin.zeroCells z'.cells q).size = q * te.size := fun q => by rw [size_zeroCells, hz0]
      cases hq : σ.opv x <;> simp only [hq] at he hx <;> try (cases he; done)
      case nsl =>
       cases hi : σ.h fresh with
       | some _ => rw [hi] at he; cases he
       | none =>
        rw [hi] at he; cases he
        obtain ⟨hso, hm⟩ := hb _ rfl
        obtain ⟨news, hS⟩ := srcOf_ok (P := P) s hsrc hso
        simp only [V] at hx
        by_cases hm0 : m = 0
        ·subst hm0
         have hn0 : news = [] := List.eq_nil_of_length_eq_zero (by simpa using hS.size)
         subst hn0
         have hr := Zei (P := P) (w := w) o.type hok.und hokq.und hok'.info (p := none) (len := 0) (cap := 0) hS.len (by rw [hsz]; exact hS.first w rfl) (Nat.le_refl _)
         obtain ⟨s', k⟩ := s.sim.nilNew hi (.row immY te.size 0 g) rfl
         refine ⟨.value (.slice none 0 0), _, w, _, run _ _ (by rw [hx]; exact hr), .inl rfl, s', fun y u' hy => Zbz k y u' (Zds (s.sim.lost hi)) hy, by simp [V, Zav], ⟨Fr.refl _ _, fun b hbo => ?_⟩⟩
         rcases Zek hbo with h | ⟨c', e'⟩
         ·exact .inl h
         ·cases e'
        ·have hr := run_append_to (P := P) (w := w) o.type hok.und hokq.und hok'.info hok'.zero (p := none) (len := 0) (cap := 0) (olds := []) hS.len (by rw [hsz]; exact hS.first) (fun w' _ => by simp [Builtin.firstCells]) (by omega) (by omega) hby
         have hge := grownCap_ge w (0 + m) 0 el
         have hnew : (w.drew.alloc (.cells ([].toArray ++ news.toArray ++ Builtin.zeroCells z'.cells (grownCap w (0 + m) 0 el - (0 + m))) el)).heap[w.heap.size]? = some (.cells (([] : List Value) ++ news ++ (Builtin.zeroCells z'.cells (grownCap w (0 + m) 0 el - (0 + m))).toList).toArray el (0, 0)) := by
          have := heap_alloc_new w.drew (.cells ([].toArray ++ news.toArray ++ Builtin.zeroCells z'.cells (grownCap w (0 + m) 0 el - (0 + m))) el)
          rw [← arr_app]; exact this
         refine OpOk.alloc s hi (grownCap w (0 + m) 0 el) _ _ _ _ (New.drewAlloc w _ _) (run _ _ (by rw [hx]; exact hr)) (fun ι' e1 k hs => ?_) (fun ι' e1 => ?_)
         ·refine ⟨_, el, hnew, by omega, ?_, fun i hi => ?_⟩
          ·have := hzc (grownCap w (0 + m) 0 el - (0 + m))
           simp only [List.nil_append, List.size_toArray, List.length_append, hS.size, Array.length_toList, this, ← Nat.add_mul]
           congr 1; omega
          ·have := rows_new (k := 0) (F := fun _ => []) (G := g) (imm := immY) (ι' := ι') hnew (by simp) hS.size (by simp) hS.one (fun i hi => by omega) (fun i hi => ⟨(hS.rows i hi).1, by
            have := (hS.rows i hi).2
            cases immY with
            | true => exact Zdr k _ _ (Sub.refl _) this
            | false => exact Zdr k _ _ hs this⟩) i (by omega)
           rw [Zen] at this; exact this
         ·subst e1
          simp only [V, Zav, Nat.zero_mul, Nat.sub_zero]
          exact ⟨_, by simp, by omega, hm, .inr rfl⟩
      case rs id sz st len =>
       cases hh : σ.h id with
       | none => simp [hh] at he
       | some blk =>
        cases blk with
        | map _ => simp [hh] at he
        | row imm sz' k f =>
         simp only [hh] at he
         cases hg : (Nat.beq sz te.size && Nat.beq sz' te.size && Nat.beq st 0 && apartId oid id) with
         | false => rw [hg] at he; cases he
         | true =>
          rw [hg] at he
          simp only [cond_true] at he
          simp only [Bool.and_eq_true] at hg
          obtain ⟨⟨⟨g1, g2⟩, g3⟩, g4⟩ := hg
          have g1 := Nat.eq_of_beq_eq_true g1
          have g2 := Nat.eq_of_beq_eq_true g2
          have g3 := Nat.eq_of_beq_eq_true g3
          subst g1; subst g2; subst g3
          cases hi : σ.h fresh with
          | some _ => rw [hi] at he; cases he
          | none =>
           rw [hi] at he; cases he
           obtain ⟨hso, hlk, hm⟩ := hb _ rfl
           obtain ⟨news, hS⟩ := srcOf_ok (P := P) s hsrc hso
           have hfi : fresh ≠ id := fun e => by rw [e, hh] at hi; cases hi
           simp only [V] at hx
           have hag : ∀ l j, j ≠ id → j ≠ fresh → updP (updP ι id none) fresh (some l) j = ι j := fun l j h1 h2 => by rw [Za8 h2, Za8 h1]
           have hkl : ∀ l a' b', kill id a' = some b' → ι a' ≠ none → updP (updP ι id none) fresh (some l) b' = ι a' := by
            intro l a' b' e' hne
            obtain ⟨h1, rfl⟩ := kill_some e'
            have h2 : b' ≠ fresh := fun e'' => hne (by rw [e'']; exact s.sim.lost hi)
            exact hag l b' h1 h2
           have mid : ∀ a' b', kill id a' = some b' → updP ι id none b' = ι a' := kill_sub (fun j hj => Za8 hj)
           have hsubm : ∀ l, Sub (updP ι id none) (updP (updP ι id none) fresh (some l)) := fun l => Zds (by rw [Za8 hfi]; exact s.sim.lost hi)
           have conv : ∀ {w' : World} {l : Loc} (kk : Keep w w' (Own X ι) (Own X (updP (updP ι id none) fresh (some l)))) (b0 : Bool) (cs : List AV) (vs : List Value), ((imm && immY) = true → b0 = true) →
             Vs w (Own X ι) cs (bif b0 then ι0 else ι) vs →
             Vs w' (Own X (updP (updP ι id none) fresh (some l))) (bif imm && immY then cs else Zb4 (kill id) cs) (bif imm && immY then ι0 else updP (updP ι id none) fresh (some l)) vs := by
            intro w' l kk b0 cs vs hb0 hV
            cases hi2 : (imm && immY) with
            | true =>
             rw [hb0 hi2] at hV
             exact Zdr kk _ _ (Sub.refl _) hV
            | false =>
             have hV1 : Vs w (Own X ι) cs ι vs := by
              cases b0 with
              | true => exact Vs_weak _ _ hV
              | false => exact hV
             exact Zdr kk _ _ (hsubm l) (Vs_map mid _ _ hV1)
           have rowsEq : ∀ i, (bif imm && immY then appR len f g else fun i => Zb4 (kill id) (appR len f g i)) i = appR len (fun i => bif imm && immY then f i else Zb4 (kill id) (f i)) (fun i => bif imm && immY then g i else Zb4 (kill id) (g i)) i := by
            intro i
            cases imm && immY with
            | true => rfl
            | false => simp only [cond_false, appR]; cases Nat.blt i len <;> rfl
           have lenEq : ∀ cs : List AV, (bif imm && immY then cs else Zb4 (kill id) cs).length = cs.length := by
            intro cs; cases imm && immY <;> simp [Zfm]
           have condEq : ∀ (h : Nat → List AV) i, (bif imm && immY then h i else Zb4 (kill id) (h i)) = (bif imm && immY then (h i) else Zb4 (kill id) (h i)) := fun _ _ => rfl
           have fin : ∀ (w' : World) (l : Loc) (v : Value), (Builtin.append_ #[t, t'] o.type #[a.eval x, a.eval y]).run P w = .ok v w' → Keep w w' (Own X ι) (Own X (updP (updP ι id none) fresh (some l))) →
             (∀ i' b c, i' ≠ id → ι i' = some (.at b c) → w'.heap[b]? = w.heap[b]?) →
             BRel w' (Own X (updP (updP ι id none) fresh (some l))) (updP (updP ι id none) fresh (some l)) (.row (imm && immY) te.size (len + m) (bif imm && immY then appR len f g else fun i => Zb4 (kill id) (appR len f g i))) l →
             (∀ b c, l = .at b c → ¬ X b ∧ ∀ i' d, i' ≠ id → ι i' ≠ some (.at b d)) → (∀ b, b < w.heap.size → ¬ Mine ι b → w'.heap[b]? = w.heap[b]?) → (∀ b c, l = .at b c → Mine ι b ∨ w.heap.size ≤ b) → w'.os = w.os → w'.tape = w.tape → w'.output = w.output → (∀ a, w'.frozen? a = w.frozen? a) →
             V w' (Own X (updP (updP ι id none) fresh (some l))) (.rs fresh te.size 0 (len + m)) (updP (updP ι id none) fresh (some l)) v →
             OpOk P n X σ ι a w o fresh (.move id (.row (imm && immY) te.size (len + m) (bif imm && immY then appR len f g else fun i => Zb4 (kill id) (appR len f g i)))) (.rs fresh te.size 0 (len + m)) := by
            intro w' l v hr kk hoth hbr hl hX hm' h1 h2 h3 hfz hv
            have s' := s.sim.move hi _ kk hoth hbr hl
            refine ⟨.value v, v, w', _, run _ _ hr, .inl rfl, s', fun y u' hy => Zbz kk _ _ (hsubm l) (V_map mid y u' hy), hv, ⟨⟨h1, h2, h3, kk.size, hX, fun a _ => hfz a⟩, fun b hbo => ?_⟩⟩
            rcases Zek hbo with h | ⟨c', e'⟩
            ·rcases Zek h with h | ⟨c', e'⟩
             ·exact .inl h
             ·cases e'
            ·cases e'; exact hm' b c' rfl
           cases hl : ι id with
           | none => simp [hl] at hx
           | some l =>
            have hown : ∀ (l' : Loc) b, (∀ b' c', l' = .at b' c' → b' = b → Own X ι b ∨ w.heap.size ≤ b) → Own X (updP (updP ι id none) fresh (some l')) b → Own X ι b ∨ w.heap.size ≤ b := by
             intro l' b hq hbo
             rcases hbo with hbo | ⟨j, c', e'⟩
             ·exact .inl (.inl hbo)
             ·by_cases hj : j = fresh
              ·subst hj; rw [Zav] at e'; cases e'; exact hq _ _ rfl rfl
              ·by_cases hj2 : j = id
               ·subst hj2; rw [Za8 hj, Zav] at e'; cases e'
               ·rw [hag l' j hj2 hj] at e'; exact .inl (.inr ⟨j, c', e'⟩)
            have grow : ∀ (p : Option Addr) (cap : Nat) (olds : List Value), a.eval x = .slice p len cap → cap < len + m → olds.length = len * te.size →
              (∀ w' : World, w'.heap = w.heap → (Builtin.firstCells te.size len (.slice p len cap)).run P w' = .ok olds.toArray w') → (∀ v ∈ olds, v.oneCell' = true) →
              (∀ i, i < len → (f i).length = te.size ∧ Vs w (Own X ι) (f i) (bif imm then ι0 else ι) ((olds.drop (i * te.size)).take te.size)) →
              OpOk P n X σ ι a w o fresh (.move id (.row (imm && immY) te.size (len + m) (bif imm && immY then appR len f g else fun i => Zb4 (kill id) (appR len f g i)))) (.rs fresh te.size 0 (len + m)) := by
             intro p cap olds e1 hcap hol hofirst ho1 horows
             have hr := run_append_to (P := P) (w := w) o.type hok.und hokq.und hok'.info hok'.zero (p := p) (len := len) (cap := cap) (olds := olds) hS.len (by rw [hsz]; exact hS.first) (by rw [hsz]; exact hofirst) hcap (by omega) hby
             have hge := grownCap_ge w (len + m) cap el
             generalize hW : w.drew.alloc (.cells (olds.toArray ++ news.toArray ++ Builtin.zeroCells z'.cells (grownCap w (len + m) cap el - (len + m))) el) = w' at hr
             have nw : New w w' := by rw [← hW]; exact New.drewAlloc w _ _
             have hnew : w'.heap[w.heap.size]? = some (.cells (olds ++ news ++ (Builtin.zeroCells z'.cells (grownCap w (len + m) cap el - (len + m))).toList).toArray el (0, 0)) := by
              have := heap_alloc_new w.drew (.cells (olds.toArray ++ news.toArray ++ Builtin.zeroCells z'.cells (grownCap w (len + m) cap el - (len + m))) el)
              rw [hW] at this
              rw [← arr_app]; exact this
             have kk : Keep w w' (Own X ι) (Own X (updP (updP ι id none) fresh (some (.at w.heap.size (grownCap w (len + m) cap el))))) :=
              ⟨by have := nw.size; omega, fun b hb' _ => nw.old b hb', fun b hb' hbo => (hown _ b (fun b' c' e' e'' => by cases e'; right; omega) hbo).resolve_right (by omega)⟩
             refine fin w' (.at w.heap.size (grownCap w (len + m) cap el)) _ (by rw [e1]; exact hr) kk (fun i' b c' _ e' => nw.old b (s.sim.lt e')) ?_ ?_ (fun b hb' _ => nw.old b hb') (fun b c' e' => by cases e'; exact .inr (Nat.le_refl _)) nw.os nw.tape nw.output nw.fz ?_
             ·refine ⟨_, el, hnew, hge, ?_, fun i hi => ?_⟩
              ·have := hzc (grownCap w (len + m) cap el - (len + m))
               simp only [List.size_toArray, List.length_append, hol, hS.size, Array.length_toList, this, ← Nat.add_mul]
               congr 1; omega
              ·rw [rowsEq]
               exact rows_new (imm := imm && immY) hnew hol hS.size ho1 hS.one (fun i hi => ⟨by rw [lenEq]; exact (horows i hi).1, conv kk imm _ _ (fun h => by simp only [Bool.and_eq_true] at h; exact h.1) (horows i hi).2⟩)
                (fun i hi => ⟨by rw [lenEq]; exact (hS.rows i hi).1, conv kk immY _ _ (fun h => by simp only [Bool.and_eq_true] at h; exact h.2) (hS.rows i hi).2⟩) i hi
             ·intro b c' e'
              cases e'
              exact ⟨fun hX => by have := s.sim.below _ hX; omega, fun i' d _ e' => by have := s.sim.lt e'; omega⟩
             ·simp only [V, Zav, Nat.zero_mul, Nat.sub_zero]
              exact ⟨_, rfl, by omega, hm, .inr rfl⟩
            cases l with
            | ghost => simp [hl] at hx
            | nil =>
             simp only [hl] at hx
             obtain ⟨e1, _, e2⟩ := hx
             subst e2
             by_cases hm0 : m = 0
             ·subst hm0
              have hn0 : news = [] := List.eq_nil_of_length_eq_zero (by simpa using hS.size)
              subst hn0
              have hr := Zei (P := P) (w := w) o.type hok.und hokq.und hok'.info (p := none) (len := 0) (cap := 0) hS.len (by rw [hsz]; exact hS.first w rfl) (Nat.le_refl _)
              refine fin w .nil _ (by rw [e1]; exact hr) ⟨Nat.le_refl _, fun _ _ _ => rfl, fun b hb' hbo => (hown .nil b (fun _ _ e' _ => by cases e') hbo).resolve_right (by omega)⟩ (fun _ _ _ _ _ => rfl) rfl (fun _ _ e' => by cases e') (fun _ _ _ => rfl) (fun _ _ e' => by cases e') rfl rfl rfl (fun _ => rfl) ?_
              simp [V, Zav]
             ·exact grow none 0 [] e1 (by omega) (by simp) (fun w' _ => by simp [Builtin.firstCells]) (by simp) (fun i hi => by omega)
            | «at» b c =>
             simp only [hl] at hx
             obtain ⟨p, e1, h3, _, h5⟩ := hx
             rw [Nat.sub_zero] at e1
             obtain ⟨arr, TT, hcell, hkc, hasz, hrow⟩ := s.sim.rel id _ _ hh hl
             have holen : ((arr.toList.take (len * te.size))).length = len * te.size := by
              have : len * te.size ≤ arr.size := by rw [hasz]; exact Nat.mul_le_mul_right _ (by omega)
              simp; omega
             have horow : ∀ i, i < len → (f i).length = te.size ∧ Vs w (Own X ι) (f i) (bif imm then ι0 else ι) (((arr.toList.take (len * te.size)).drop (i * te.size)).take te.size) := by
              intro i hi
              obtain ⟨h6, h7⟩ := hrow i (by omega)
              refine ⟨h6, ?_⟩
              have hle : i * te.size + te.size ≤ len * te.size := by rw [← Nat.succ_mul]; exact Nat.mul_le_mul_right _ hi
              have := Vc_to_Vs hcell h7
              rw [h6] at this
              rw [List.drop_take, List.take_take, Nat.min_eq_left (by omega)]
              exact this
             have horow1 : ∀ v ∈ arr.toList.take (len * te.size), v.oneCell' = true := by
              intro v hv
              obtain ⟨q, hq, hqv⟩ := List.mem_take_iff_getElem.1 hv
              have hts : 0 < te.size := h1s
              have hq' : q < len * te.size := by omega
              have hdiv : q / te.size < len := Nat.div_lt_of_lt_mul (by rw [Nat.mul_comm]; exact hq')
              obtain ⟨h6, h7⟩ := hrow (q / te.size) (by omega)
              obtain ⟨vs, hvl, hvc, _, h8⟩ := Vc_read h7
              have hmod : q % te.size < vs.length := by rw [hvl, h6]; exact Nat.mod_lt _ hts
              have := hvc (q % te.size) vs[q % te.size] (by simp [hmod])
              rw [cell_new hcell, Nat.mul_comm, Nat.div_add_mod] at this
              have hh2 : arr[q]? = some v := by rw [← hqv]; simp
              rw [hh2] at this
              cases this
              exact h8 _ (by simp)
             by_cases hroom : len + m ≤ c
             ·by_cases hc0 : c = 0
              ·-- nothing in nothing
               have hm0 : m = 0 := by omega
               have hlen0 : len = 0 := by omega
               subst hm0; subst hlen0; subst hc0
               have hn0 : news = [] := List.eq_nil_of_length_eq_zero (by simpa using hS.size)
               subst hn0
               have hr := Zei (P := P) (w := w) o.type hok.und hokq.und hok'.info (p := some p) (len := 0) (cap := 0) hS.len (by rw [hsz]; exact hS.first w rfl) (Nat.le_refl _)
               refine fin w (.at b 0) _ (by rw [e1]; exact hr) ⟨Nat.le_refl _, fun _ _ _ => rfl, fun b' hb' hbo => (hown (.at b 0) b' (fun b1 c1 e' e'' => by cases e'; exact .inl (e'' ▸ .inr ⟨id, _, hl⟩)) hbo).resolve_right (by omega)⟩ (fun _ _ _ _ _ => rfl)
                ⟨arr, TT, hcell, Nat.le_refl _, hasz, fun i hi => by omega⟩ (fun b1 c1 e' => by cases e'; exact ⟨s.sim.apart id b 0 hl, fun i' d hne e' => hne (s.sim.inj i' id b d 0 e' hl)⟩) (fun _ _ _ => rfl) (fun b1 c1 e' => by cases e'; exact .inl ⟨id, _, hl⟩) rfl rfl rfl (fun _ => rfl) ?_
               simp only [V, Zav]
               exact ⟨p, rfl, Nat.le_refl _, hm, .inl trivial⟩
              ·have hp : p = ⟨b, 0, none⟩ := by
                rcases h5 with h5 | h5
                ·omega
                ·simpa using h5
               subst hp
               have hfit : len * te.size + news.length ≤ arr.size := by rw [hS.size, hasz, ← Nat.add_mul]; exact Nat.mul_le_mul_right _ hroom
               have hone := hS.one
               have hr := run_append_in (P := P) (w := w) o.type hok.und hokq.und hok'.info hcell hS.len (by rw [hsz]; exact hS.first) hone hroom (by rw [hsz]; exact hfit)
               rw [hsz] at hr
               have hnew := setRow_heap w b arr (arr.toList.take (len * te.size) ++ news ++ arr.toList.drop (len * te.size + news.length)).toArray TT _ hcell
               have kk : Keep w (w.setRow b (arr.toList.take (len * te.size) ++ news ++ arr.toList.drop (len * te.size + news.length)).toArray) (Own X ι) (Own X (updP (updP ι id none) fresh (some (.at b c)))) :=
                ⟨by simp, fun b' _ hno => setRow_other w b b' _ (fun e' => hno (e' ▸ .inr ⟨id, c, hl⟩)), fun b' hb' hbo => (hown (.at b c) b' (fun b1 c1 e' e'' => by cases e'; exact .inl (e'' ▸ .inr ⟨id, _, hl⟩)) hbo).resolve_right (by omega)⟩
               refine fin _ (.at b c) _ (by rw [e1]; exact hr) kk (fun i' b' c' hne e' => setRow_other w b b' _ (fun e'' => hne (s.sim.inj i' id b c' c (e'' ▸ e') hl))) ?_
                (fun b1 c1 e' => by cases e'; exact ⟨s.sim.apart id b c hl, fun i' d hne e' => hne (s.sim.inj i' id b d c e' hl)⟩) (fun b' _ hno => setRow_other w b b' _ (fun e' => hno (e' ▸ ⟨id, c, hl⟩))) (fun b1 c1 e' => by cases e'; exact .inl ⟨id, _, hl⟩) rfl rfl rfl (setRow_fz hcell) ?_
               ·refine ⟨_, TT, hnew, hroom, ?_, fun i hi => ?_⟩
                ·simp only [List.size_toArray, List.length_append, holen, List.length_drop, Array.length_toList]; omega
                ·rw [rowsEq]
                 exact rows_new (imm := imm && immY) hnew holen hS.size horow1 hS.one (fun i hi => ⟨by rw [lenEq]; exact (horow i hi).1, conv kk imm _ _ (fun h => by simp only [Bool.and_eq_true] at h; exact h.1) (horow i hi).2⟩)
                  (fun i hi => ⟨by rw [lenEq]; exact (hS.rows i hi).1, conv kk immY _ _ (fun h => by simp only [Bool.and_eq_true] at h; exact h.2) (hS.rows i hi).2⟩) i hi
               ·simp only [V, Zav, Nat.zero_mul, Nat.sub_zero]
                exact ⟨_, rfl, by omega, hm, .inr rfl⟩
             ·exact grow (some p) c _ e1 (by omega) holen (fun w' hw' => by
               rcases h5 with h5 | h5
               ·have : len = 0 := by omega
                subst this
                simp [Builtin.firstCells, loadCells, loadCellsFrom]
               ·have h5 : p = ⟨b, 0, none⟩ := by simpa using h5
                subst h5
                refine run_firstCells_some w' te.size len _ len c _ holen (fun j v hj => ?_)
                rw [Zec]
                have : w'.heap[b]? = some (.cells arr TT (0, 0)) := by rw [hw']; exact hcell
                rw [cell_new this]
                rw [List.getElem?_take] at hj
                split at hj
                ·simpa using hj
                ·cases hj) horow1 horow
     ·cases he
   ·cases he
  ·cases he
 ·cases he
end
theorem bifSome {α : Type} {c : Bool} {x e : α} (h : (bif c then some x else none) = some e) : c = true ∧ x = e := by
 cases c <;> simp at h; exact ⟨rfl, h⟩
theorem arr_written {arr : Array Value} {o : Nat} {us : List Value} (hfit : o + us.length ≤ arr.size) :
  (arr.toList.take o ++ us ++ arr.toList.drop (o + us.length)).toArray.size = arr.size ∧
   (∀ q, (q < o ∨ o + us.length ≤ q) → (arr.toList.take o ++ us ++ arr.toList.drop (o + us.length)).toArray[q]? = arr[q]?) ∧ ∀ q v, us[q]? = some v → (arr.toList.take o ++ us ++ arr.toList.drop (o + us.length)).toArray[o + q]? = some v := by
 refine ⟨by simp; omega, fun q hq => ?_, fun q v hv => ?_⟩
 ·rcases hq with hq | hq
  ·have : q < (arr.toList.take o).length := by simp; omega
   simp [List.getElem?_append_left, this, List.getElem?_take, hq]
   rw [List.getElem?_append_left (by simp; omega), List.getElem?_take]
   simp [hq]
  ·simp
   rw [List.getElem?_append_right (by simp; omega), List.getElem?_append_right (by simp; omega), List.getElem?_drop]
   simp
   congr 1
   omega
 ·have hq := (List.getElem?_eq_some_iff.1 hv).1
  simp
  rw [List.getElem?_append_right (by simp; omega), List.getElem?_append_left (by simp; omega)]
  rw [← hv]; congr 1; simp; omega
section
variable {P : Program} {T : Zbc} {n : Nat} {X : Nat → Prop} {σ : ASt} {ι : Zai} {a : Act} {w : World}
def inRow (st len i : Nat) : Bool := Nat.ble st i && Nat.blt i (st + len)
theorem inRow_iff {st len i : Nat} : inRow st len i = true ↔ st ≤ i ∧ i < st + len := by
 simp only [inRow, Bool.and_eq_true, Nat.ble_eq, Nat.blt_eq]
def evClear (T : Zbc) (σ : ASt) (t : Nat) (x : AV) : Option Ev := match T t with
 | some ⟨_, _, .slice el, _⟩ => match T el with
  | some te => match x with
   | .nsl => some ⟨none, .any, .none, []⟩
   | .rs id sz st len => match σ.h id with
    | some (.row imm sz' m f) => bif Nat.beq sz te.size && Nat.beq sz' te.size && allB Zcj te.zero then
      some ⟨some (st + len ≤ m), .any, .write id (.row (imm && allB Zch te.zero) sz m (fun i => bif inRow st len i then te.zero else f i)), [id]⟩
     else none
    | _ => none
   | _ => none
  | none => none
 | _ => none
theorem Sim.weakB {X : Nat → Prop} {h : Zaq} {ι : Zai} {w : World} (s : Sim X h ι w) {i : Id} {b0 : Zau} (hi : h i = some b0) (blk : Zau) (hb : ∀ l, ι i = some l → BRel w (Own X ι) ι blk l) :
  Sim X (updH h i (some blk)) ι w := by
 refine ⟨fun j => ?_, fun j blk' l e1 e2 => ?_, s.inj, s.apart, s.below⟩
 ·by_cases hj : j = i
  ·subst hj; rw [Zbw, s.dom, hi]; rfl
  ·rw [Zcv hj]; exact s.dom j
 ·by_cases hj : j = i
  ·subst hj; rw [Zbw] at e1; cases e1; exact hb l e2
  ·rw [Zcv hj] at e1; exact s.rel j blk' l e1 e2
theorem zeroCells_get (z : Array Value) (n q : Nat) (hq : q < n * z.size) : (Builtin.zeroCells z n).toList[q]? = z[q % z.size]? := by
 have hz : 0 < z.size := by
  rcases Nat.eq_zero_or_pos z.size with h | h
  ·rw [h] at hq; simp at hq
  ·exact h
 have hm : q % z.size < z.size := Nat.mod_lt _ hz
 simp [Builtin.zeroCells, hq, hm]
theorem Zd0 (z : Array Value) (n : Nat) : (Builtin.zeroCells z n).toList.length = n * z.size := by simp [Builtin.zeroCells]
theorem evClear_ok (hT : TOk P T) (s : St n X σ ι a w) {o : Oper} {fresh : Id} {c_1 : Call} {t : Nat} {x : Operand} {e : Ev}
  (ho : o.op = .call c_1) (hc : c_1.callee = .builtin .clear) (ha : c_1.args = #[x]) (ht : c_1.argTypes[0]? = some t) (he : evClear T σ t (σ.opv x) = some e) (hb : ∀ p, e.obl = some p → p) :
  OpOk P n X σ ι a w o fresh e.up e.val := by
 have hx := s.opv x
 unfold evClear at he
 split at he <;> try (cases he; done)
 rename_i _ _ el _ hTt
 obtain ⟨i, d, zv, hok⟩ := hT t _ hTt
 have hk := hok.kind
 cases d <;> simp only [TK.rel] at hk
 cases hk
 split at he <;> try (cases he; done)
 rename_i te hte
 obtain ⟨ie, de, ze, hoke⟩ := hT _ te hte
 have run : ∀ v w', (Builtin.clear_ c_1.argTypes o.type #[a.eval x]).run P w = .ok v w' → (execOp a.eval o).run P w = .ok (.value v) w' := by
  intro v w' h
  simp only [execOp, ho, resolve, hc, ha, Sem.run_bind, Sem.run_pure, Result.andThen_ok, invoke]
  simp [builtin, h]
 cases hq : σ.opv x <;> simp only [hq] at he hx <;> try (cases he; done)
 case nsl =>
  cases he
  simp only [V] at hx
  refine OpOk.pure s (.tuple #[]) (run _ _ ?_) (by simp only [V])
  simp [Builtin.clear_, ht, hx, run_underlying hok.und]
 case rs id sz st len =>
  cases hh : σ.h id with
  | none => rw [hh] at he; cases he
  | some blk =>
   rw [hh] at he
   cases blk with
   | map kvs => cases he
   | row imm sz' m f =>
    simp only at he
    obtain ⟨hcnd, he'⟩ := bifSome he
    subst he'
    simp only [Bool.and_eq_true] at hcnd
    obtain ⟨⟨c1, c2⟩, c3⟩ := hcnd
    have c1 := Nat.eq_of_beq_eq_true c1
    have c2 := Nat.eq_of_beq_eq_true c2
    subst c1; subst c2
    have hfit : st + len ≤ m := hb _ rfl
    simp only [V] at hx
    cases hl : ι id with
    | none => rw [hl] at hx; exact hx.elim
    | some l =>
     have hbr := s.sim.rel id _ l hh hl
     rw [hl] at hx
     have idle : len = 0 → (execOp a.eval o).run P w = .ok (.value (.tuple #[])) w → OpOk P n X σ ι a w o fresh (.write id (.row (imm && allB Zch te.zero) te.size m (fun i => bif inRow st len i then te.zero else f i))) .any := by
      intro h0 hrun
      refine ⟨_, _, w, ι, hrun, .inl rfl, ?_, fun _ _ h => h, by simp only [V], Goes.refl X ι w⟩
      refine Sim.weakB s.sim hh _ (fun l' e2 => ?_)
      have hno : (fun i => bif inRow st len i then te.zero else f i) = f := by
       funext i
       cases e : inRow st len i with
       | false => rfl
       | true => have := inRow_iff.1 e; omega
      rw [hno]
      rw [hl] at e2; cases e2
      cases l with
      | nil => exact hbr
      | ghost => trivial
      | «at» b c =>
       obtain ⟨arr, TT, e3, h4, h5, h6⟩ := hbr
       refine ⟨arr, TT, e3, h4, h5, fun r hr => ⟨(h6 r hr).1, ?_⟩⟩
       have := (h6 r hr).2
       cases imm with
       | false => exact this
       | true =>
        cases allB Zch te.zero with
        | true => exact this
        | false => exact Zcn true _ _ _ this
     cases l with
     | ghost => exact hx.elim
     | nil =>
      simp only at hx
      obtain ⟨e1, _, e2⟩ := hx
      exact idle e2 (run _ _ (by simp [Builtin.clear_, ht, e1, run_underlying hok.und]))
     | «at» b c =>
      simp only at hx
      obtain ⟨p, e1, h1, h2, h3⟩ := hx
      by_cases h0 : len = 0
      ·exact idle h0 (run _ _ (by simp [Builtin.clear_, ht, e1, h0, run_underlying hok.und]))
      ·obtain ⟨arr, TT, hcell, hmc, hsz, hrow⟩ := hbr
       have hp : p = ⟨b, st * te.size, none⟩ := h3.resolve_left (by omega)
       subst hp
       have hzl : ze.cells.size = te.size := hoke.zeroN
       have hone : ∀ v ∈ ze.cells.toList, v.oneCell' = true := Zc0 c3 (hoke.zeroV w (Own X ι) ι)
       have hone' : ∀ v ∈ (Builtin.zeroCells ze.cells len).toList, v.oneCell' = true := by
        intro v hv
        obtain ⟨q, hq1, hq2⟩ := List.getElem_of_mem hv
        rw [Zd0] at hq1
        have := zeroCells_get ze.cells len q hq1
        rw [List.getElem?_eq_getElem (by rw [Zd0]; exact hq1), hq2] at this
        have := Array.mem_of_getElem? this.symm
        exact hone v (by simpa using this)
       have hle : (st + len) * te.size ≤ arr.size := by rw [hsz]; exact Nat.mul_le_mul_right _ (by omega)
       rw [Nat.add_mul] at hle
       have hul : (Builtin.zeroCells ze.cells len).toList.length = len * te.size := by rw [Zd0, hzl]
       have hstore := run_storeCells_at P b (st * te.size) TT (Builtin.zeroCells ze.cells len).toList 0 arr w hcell (by rw [hul]; simpa using hle) hone'
       simp only [Nat.add_zero] at hstore
       have hclear : (Builtin.clear_ c_1.argTypes o.type #[a.eval x]).run P w = .ok (.tuple #[]) (w.setRow b (arr.toList.take (st * te.size) ++ (Builtin.zeroCells ze.cells len).toList ++ arr.toList.drop (st * te.size + (Builtin.zeroCells ze.cells len).toList.length)).toArray) := by
        obtain ⟨len', rfl⟩ : ∃ k, len = k + 1 := ⟨len - 1, by omega⟩
        simp only [Builtin.clear_, ht, e1]
        simp [run_underlying hok.und, zeroValue, run_typeInfo _ hoke.info, hoke.zero, hstore]
       have hrun := run _ _ hclear
       obtain ⟨hs1, hs2, hs3⟩ := arr_written (arr := arr) (o := st * te.size) (us := (Builtin.zeroCells ze.cells len).toList) (by rw [hul]; omega)
       generalize hA : (arr.toList.take (st * te.size) ++ (Builtin.zeroCells ze.cells len).toList ++ arr.toList.drop (st * te.size + (Builtin.zeroCells ze.cells len).toList.length)).toArray = arr' at *
       have hnew : (w.setRow b arr').heap[b]? = some (.cells arr' TT (0, 0)) := setRow_heap w b arr arr' TT _ hcell
       obtain ⟨s', k⟩ := s.sim.write (w' := w.setRow b arr') hl (.row (imm && allB Zch te.zero) te.size m (fun i => bif inRow st len i then te.zero else f i)) (by simp)
        (fun q hq => setRow_other w b q _ hq) (fun k => by
         refine ⟨arr', TT, hnew, hmc, by omega, fun r hr => ?_⟩
         obtain ⟨hrl, hrc⟩ := hrow r hr
         cases hin : inRow st len r with
         | true =>
          simp only [hin, cond_true]
          have hr2 := inRow_iff.1 hin
          refine ⟨by rw [Zby (hoke.zeroV w (Own X ι) ι)]; simp [hzl], ?_⟩
          refine Vc_row hnew (hoke.zeroV (w.setRow b arr') (Own X ι) _) (fun q v hqv => ?_) hone
          have hq := (List.getElem?_eq_some_iff.1 hqv).1
          have hq' : q < te.size := by rw [← hzl]; simpa using hq
          have hz0 : 0 < te.size := by omega
          obtain ⟨r', rfl⟩ : ∃ r', r = st + r' := ⟨r - st, by omega⟩
          have hidx : r' * te.size + q < len * te.size := by
           have : (r' + 1) * te.size ≤ len * te.size := Nat.mul_le_mul_right _ (by omega)
           rw [Nat.succ_mul] at this; omega
          have hget := zeroCells_get ze.cells len (r' * te.size + q) (by rw [hzl]; exact hidx)
          have hmod : (r' * te.size + q) % ze.cells.size = q := by
           rw [hzl, Nat.add_comm, Nat.add_mul_mod_self_right]; exact Nat.mod_eq_of_lt hq'
          rw [hmod] at hget
          have := hs3 (r' * te.size + q) v (by rw [hget]; simpa using hqv)
          rw [← this]; congr 1; rw [Nat.add_mul]; omega
         | false =>
          simp only [hin, cond_false]
          refine ⟨hrl, ?_⟩
          have hold : Vc w (Own X ι) (f r) (bif imm && allB Zch te.zero then ι0 else ι) b (r * te.size) := by
           cases hi : (imm && allB Zch te.zero) with
           | true =>
            simp only [Bool.and_eq_true] at hi
            rw [hi.1] at hrc; exact hrc
           | false => exact Zcn imm _ _ _ hrc
          refine Vc_written hcell hnew k hold (fun q hq => hs2 _ ?_)
          have hout : r < st ∨ st + len ≤ r := by
           rcases Nat.lt_or_ge r st with h | h
           ·exact .inl h
           ·rcases Nat.lt_or_ge r (st + len) with h' | h'
            ·have : inRow st len r = true := inRow_iff.2 ⟨h, h'⟩
             rw [this] at hin; cases hin
            ·exact .inr h'
          rw [hul]
          rcases hout with h | h
          ·left
           have : (r + 1) * te.size ≤ st * te.size := Nat.mul_le_mul_right _ h
           rw [Nat.succ_mul] at this; omega
          ·right
           have : (st + len) * te.size ≤ r * te.size := Nat.mul_le_mul_right _ h
           rw [Nat.add_mul] at this; omega)
       refine ⟨_, _, w.setRow b arr', ι, hrun, .inl rfl, s', fun y u' hy => Zbz k _ _ (Sub.refl _) hy, by simp only [V], ⟨⟨rfl, rfl, rfl, by simp, fun q hq hno => ?_, fun a _ => setRow_fz hcell a⟩, fun b hb => .inl hb⟩⟩
       exact setRow_other w b q _ (fun e => hno ⟨id, c, e ▸ hl⟩)
end
end Dv
namespace Dv
open Go Go.MapKept
def Zcg : List (List Int × Int) → List Int → Option Int
 | [], _ => none
 | (k', v) :: r, k => if k' = k then some v else Zcg r k
def mput : List (List Int × Int) → List Int → Int → List (List Int × Int)
 | [], k, v => [(k, v)]
 | (k', v') :: r, k, v => if k' = k then (k, v) :: r else (k', v') :: mput r k v
def mdel : List (List Int × Int) → List Int → List (List Int × Int)
 | [], _ => []
 | (k', v') :: r, k => if k' = k then r else (k', v') :: mdel r k
theorem mlook_none {k : List Int} : ∀ {m : List (List Int × Int)}, (∀ p ∈ m, p.1 ≠ k) → Zcg m k = none
 | [], _ => rfl
 | (k', v) :: r, h => by
   simp only [Zcg]; rw [if_neg (h (k', v) (by simp))]; exact mlook_none (fun p hp => h p (by simp [hp]))
theorem mput_none {k : List Int} {v : Int} : ∀ {m : List (List Int × Int)}, (∀ p ∈ m, p.1 ≠ k) → mput m k v = m ++ [(k, v)]
 | [], _ => rfl
 | (k', v') :: r, h => by
   simp only [mput]; rw [if_neg (h (k', v') (by simp)), mput_none (fun p hp => h p (by simp [hp]))]; rfl
theorem mdel_none {k : List Int} : ∀ {m : List (List Int × Int)}, (∀ p ∈ m, p.1 ≠ k) → mdel m k = m
 | [], _ => rfl
 | (k', v') :: r, h => by
   simp only [mdel]; rw [if_neg (h (k', v') (by simp)), mdel_none (fun p hp => h p (by simp [hp]))]
theorem mat_apart {k : List Int} {m : List (List Int × Int)} {j : Nat} {v0 : Int} {k' : List Int} {v' : Int} (hn : (((k', v') :: m).map (·.1)).Nodup) (h : m[j]? = some (k, v0)) : k' ≠ k := by
 intro e; subst e
 simp only [List.map_cons, List.nodup_cons] at hn
 exact hn.1 (List.mem_map.2 ⟨_, List.mem_of_getElem? h, rfl⟩)
theorem mlook_at {k : List Int} {v0 : Int} : ∀ {m : List (List Int × Int)} {j : Nat}, (m.map (·.1)).Nodup → m[j]? = some (k, v0) → Zcg m k = some v0
 | [], _, _, h => by simp at h
 | (k', v') :: r, 0, _, h => by simp at h; obtain ⟨rfl, rfl⟩ := h; simp [Zcg]
 | (k', v') :: r, j + 1, hn, h => by
   simp only [List.getElem?_cons_succ] at h
   simp only [Zcg]; rw [if_neg (mat_apart hn h)]
   exact mlook_at (by simp only [List.map_cons, List.nodup_cons] at hn; exact hn.2) h
theorem mput_at {k : List Int} {v0 v : Int} : ∀ {m : List (List Int × Int)} {j : Nat}, (m.map (·.1)).Nodup → m[j]? = some (k, v0) → mput m k v = m.set j (k, v)
 | [], _, _, h => by simp at h
 | (k', v') :: r, 0, _, h => by simp at h; obtain ⟨rfl, rfl⟩ := h; simp [mput]
 | (k', v') :: r, j + 1, hn, h => by
   simp only [List.getElem?_cons_succ] at h
   simp only [mput]; rw [if_neg (mat_apart hn h), mput_at (by simp only [List.map_cons, List.nodup_cons] at hn; exact hn.2) h]; rfl
theorem mdel_at {k : List Int} {v0 : Int} : ∀ {m : List (List Int × Int)} {j : Nat}, (m.map (·.1)).Nodup → m[j]? = some (k, v0) → mdel m k = m.eraseIdx j
 | [], _, _, h => by simp at h
 | (k', v') :: r, 0, _, h => by simp at h; obtain ⟨rfl, rfl⟩ := h; simp [mdel]
 | (k', v') :: r, j + 1, hn, h => by
   simp only [List.getElem?_cons_succ] at h
   simp only [mdel]; rw [if_neg (mat_apart hn h), mdel_at (by simp only [List.map_cons, List.nodup_cons] at hn; exact hn.2) h]; rfl
theorem keyV_inj {κ : MK} (h1 : κ.agg = false → κ.n = 1) {a b : List Int} (ha : KeyOk κ a) (hb : KeyOk κ b) (e : keyV κ a = keyV κ b) : a = b := by
 unfold keyV at e
 cases hg : κ.agg with
 | true =>
  rw [hg] at e
  simp only [Value.agg.injEq] at e
  have e2 : a.map (Value.int κ.kk) = b.map (Value.int κ.kk) := by
   have := congrArg Array.toList e; simpa using this
  exact (List.map_inj_right (fun x y h => by cases h; rfl)).1 e2
 | false =>
  rw [hg] at e
  have hn := h1 hg
  have la := ha.1; have lb := hb.1
  rw [hn] at la lb
  match a, la, b, lb with
  | [x], _, [y], _ => simp at e; rw [e]
theorem MOk.at {κ : MK} (h1 : κ.agg = false → κ.n = 1) {m : List (List Int × Int)} {es : Array MapEntry} {clock : Nat} (h : MOk κ m es clock) {key : List Int} (hk : KeyOk κ key) {j : Nat} {e : MapEntry}
  (he : es.toList[j]? = some e) (hkey : e.key = keyV κ key) : ∃ v, m[j]? = some (key, v) ∧ e.val = .int κ.vk v := by
 have h2 := congrArg (fun l => l[j]?) h.kv
 simp only [List.getElem?_map, he, Option.map_some] at h2
 cases hm : m[j]? with
 | none => rw [hm] at h2; cases h2
 | some p =>
  rw [hm] at h2
  simp only [Option.map_some, Option.some.injEq, Prod.mk.injEq] at h2
  have hp := h.ok p (List.mem_of_getElem? hm)
  have := keyV_inj h1 hk hp.1 (hkey ▸ h2.1)
  obtain ⟨pk, pv⟩ := p
  simp only at this h2
  subst this
  exact ⟨pv, rfl, h2.2⟩
theorem MOk.none {κ : MK} {m : List (List Int × Int)} {es : Array MapEntry} {clock : Nat} (h : MOk κ m es clock) {key : List Int} (hn : ∀ e ∈ es.toList, e.key ≠ keyV κ key) : ∀ p ∈ m, p.1 ≠ key := by
 intro p hp e
 obtain ⟨j, hj, rfl⟩ := List.getElem_of_mem hp
 have h2 := congrArg (fun l => l[j]?) h.kv
 simp only [List.getElem?_map, List.getElem?_eq_getElem hj, Option.map_some] at h2
 cases he : es.toList[j]? with
 | none => rw [he] at h2; cases h2
 | some x =>
  rw [he] at h2
  simp only [Option.map_some, Option.some.injEq, Prod.mk.injEq] at h2
  exact hn x (List.mem_of_getElem? he) (by rw [h2.1, e])
theorem MOk.keys {κ : MK} {P : Program} {k e : TypeId} (K : KeyedOk P κ k e) {m : List (List Int × Int)} {es : Array MapEntry} {clock : Nat} (h : MOk κ m es clock) : ∀ x ∈ es.toList, ∃ l, keyOf P k x.key = some l := by
 intro x hx
 obtain ⟨j, hj, rfl⟩ := List.getElem_of_mem hx
 have h2 := congrArg (fun l => l[j]?) h.kv
 simp only [List.getElem?_map, List.getElem?_eq_getElem hj, Option.map_some] at h2
 cases hm : m[j]? with
 | none => rw [hm] at h2; cases h2
 | some p =>
  rw [hm] at h2
  simp only [Option.map_some, Option.some.injEq, Prod.mk.injEq] at h2
  rw [h2.1]
  exact K.reads _ (h.ok p (List.mem_of_getElem? hm)).1
theorem MOk.empty (κ : MK) : MOk κ [] #[] 0 := ⟨rfl, by simp, by simp, by simp, by simp⟩
theorem MOk.push {κ : MK} {m : List (List Int × Int)} {es : Array MapEntry} {clock : Nat} (h : MOk κ m es clock) {key : List Int} (hk : KeyOk κ key) {v : Int} (hv : κ.vk.min ≤ v ∧ v ≤ κ.vk.max) (hn : ∀ p ∈ m, p.1 ≠ key) :
  MOk κ (mput m key v) (es.push { key := keyV κ key, val := .int κ.vk v, born := clock }) (clock + 1) := by
 rw [mput_none hn]
 refine ⟨by simp [h.kv], fun p hp => ?_, ?_, ?_, fun e he => ?_⟩
 ·rw [List.mem_append, List.mem_singleton] at hp
  rcases hp with hp | rfl
  ·exact h.ok p hp
  ·exact ⟨hk, hv⟩
 ·rw [List.map_append, List.nodup_append]
  refine ⟨h.nodup, by simp, fun a ha b hb e => ?_⟩
  simp only [List.map_cons, List.map_nil, List.mem_singleton] at hb
  obtain ⟨p, hp, rfl⟩ := List.mem_map.1 ha
  exact hn p hp (e.trans hb)
 ·rw [Array.toList_push, List.map_append, List.nodup_append]
  refine ⟨h.born, by simp, fun a ha b hb e => ?_⟩
  simp only [List.map_cons, List.map_nil, List.mem_singleton] at hb
  obtain ⟨x, hx, rfl⟩ := List.mem_map.1 ha
  have := h.clock x hx
  omega
 ·rw [Array.toList_push, List.mem_append, List.mem_singleton] at he
  rcases he with he | rfl
  ·have := h.clock e he; omega
  ·simp
theorem MOk.modify {κ : MK} {m : List (List Int × Int)} {es : Array MapEntry} {clock : Nat} (h : MOk κ m es clock) {key : List Int} {v v0 : Int} (hv : κ.vk.min ≤ v ∧ v ≤ κ.vk.max) {j : Nat} (hm : m[j]? = some (key, v0)) :
  MOk κ (mput m key v) (es.modify j fun e => { e with key := keyV κ key, val := .int κ.vk v }) clock := by
 rw [mput_at h.nodup hm]
 have hk := h.ok _ (List.mem_of_getElem? hm)
 have hmod : (es.modify j fun e => { e with key := keyV κ key, val := Value.int κ.vk v }).toList = es.toList.modify j (fun e => { e with key := keyV κ key, val := Value.int κ.vk v }) := by simp
 have hb : (es.modify j fun e => { e with key := keyV κ key, val := Value.int κ.vk v }).toList.map (·.born) = es.toList.map (·.born) := by
  rw [hmod]
  apply List.ext_getElem?
  intro i
  simp only [List.getElem?_map, List.getElem?_modify]
  cases es.toList[i]? with
  | none => simp
  | some x => by_cases e : j = i <;> simp [e]
 have hset : (m.set j (key, v)).map (·.1) = m.map (·.1) := by
  apply List.ext_getElem?
  intro i
  simp only [List.getElem?_map, List.getElem?_set]
  by_cases e : j = i
  ·subst e
   have hj := (List.getElem?_eq_some_iff.1 hm).1
   rw [hm]; simp [hj]
  ·simp [e]
 refine ⟨?_, fun p hp => ?_, by rw [hset]; exact h.nodup, by rw [hb]; exact h.born, fun e he => ?_⟩
 ·rw [hmod]
  apply List.ext_getElem?
  intro i
  have h2 := congrArg (fun l => l[i]?) h.kv
  simp only [List.getElem?_map, List.getElem?_modify, List.getElem?_set] at h2 ⊢
  by_cases e : j = i
  ·subst e
   have hj := (List.getElem?_eq_some_iff.1 hm).1
   rw [hm] at h2
   cases he : es.toList[j]? with
   | none => rw [he] at h2; cases h2
   | some x => simp [hj]
  ·simp only [e, if_false]
   rw [← h2]
   cases es.toList[i]? <;> rfl
 ·rcases List.mem_or_eq_of_mem_set hp with hp | rfl
  ·exact h.ok p hp
  ·exact ⟨hk.1, hv⟩
 ·have : e.born ∈ es.toList.map (·.born) := by rw [← hb]; exact List.mem_map.2 ⟨e, he, rfl⟩
  obtain ⟨x, hx, e2⟩ := List.mem_map.1 this
  have := h.clock x hx
  omega
theorem MOk.erase {κ : MK} {m : List (List Int × Int)} {es : Array MapEntry} {clock : Nat} (h : MOk κ m es clock) (j : Nat) : MOk κ (m.eraseIdx j) (es.eraseIdxIfInBounds j) clock := by
 have hl : (es.eraseIdxIfInBounds j).toList = es.toList.eraseIdx j := by
  unfold Array.eraseIdxIfInBounds
  split
  ·simp
  ·rename_i hj; rw [List.eraseIdx_of_length_le (by simpa using hj)]
 have sub1 : (m.eraseIdx j).Sublist m := List.eraseIdx_sublist _ _
 have sub2 : (es.toList.eraseIdx j).Sublist es.toList := List.eraseIdx_sublist _ _
 refine ⟨?_, fun p hp => h.ok p (sub1.subset hp), List.Pairwise.sublist (sub1.map _) h.nodup, ?_, fun e he => ?_⟩
 ·rw [hl, Go.ChangeMaps.map_eraseIdx, Go.ChangeMaps.map_eraseIdx, h.kv]
 ·rw [hl]; exact List.Pairwise.sublist (sub2.map _) h.born
 ·rw [hl] at he; exact h.clock e (sub2.subset he)
section
variable {P : Program} {T : Zbc} {n : Nat} {X : Nat → Prop} {σ : ASt} {ι : Zai} {a : Act} {w : World}
def mkEq (a b : MK) : Bool := (a.agg == b.agg) && (Nat.beq a.n b.n && (kEq a.kk b.kk && kEq a.vk b.vk))
theorem mkEq_iff {a b : MK} (h : mkEq a b = true) : a = b := by
 obtain ⟨a1, a2, a3, a4⟩ := a; obtain ⟨b1, b2, b3, b4⟩ := b
 simp only [mkEq, Bool.and_eq_true, beq_iff_eq] at h
 obtain ⟨rfl, h2, h3, h4⟩ := h
 have := Nat.eq_of_beq_eq_true h2; subst this
 have := Zd1.1 h3; subst this
 have := Zd1.1 h4; subst this
 rfl
def intsOf (k : IntKind) : List AV → Option (List Int)
 | [] => some []
 | .int k' x :: r => bif kEq k k' then (match intsOf k r with | some xs => some (x :: xs) | none => none) else none
 | _ => none
theorem intsOf_ok {own : Nat → Prop} {k : IntKind} : ∀ {cs : List AV} {xs : List Int} {vs : List Value}, intsOf k cs = some xs → Vs w own cs ι vs → vs = xs.map (Value.int k) ∧ xs.length = cs.length ∧ ∀ x ∈ xs, k.min ≤ x ∧ x ≤ k.max
 | [], xs, vs, h, hv => by
   simp only [intsOf, Option.some.injEq] at h
   subst h
   simp only [Vs] at hv
   subst hv; simp
 | c :: r, xs, vs, h, hv => by
   cases c <;> simp only [intsOf] at h <;> try (cases h; done)
   rename_i k' x
   cases hk : kEq k k' with
   | false => rw [hk] at h; cases h
   | true =>
    rw [hk] at h
    simp only [cond_true] at h
    have := Zd1.1 hk; subst this
    cases hr : intsOf k r with
    | none => rw [hr] at h; cases h
    | some ys =>
     rw [hr] at h
     cases h
     simp only [Vs, V] at hv
     obtain ⟨v, vr, rfl, ⟨rfl, h1⟩, h2⟩ := hv
     obtain ⟨e1, e2, e3⟩ := intsOf_ok hr h2
     refine ⟨by rw [e1]; rfl, by simp [e2], fun y hy => ?_⟩
     simp only [List.mem_cons] at hy
     rcases hy with rfl | hy
     ·exact h1
     ·exact e3 y hy
def keyOfAV (κ : MK) (x : AV) : Option (List Int) := match κ.agg with
 | false => match x with
  | .int k v => bif kEq κ.kk k && Nat.beq κ.n 1 then some [v] else none
  | _ => none
 | true => match x with
  | .agg cs => bif Nat.beq cs.length κ.n then intsOf κ.kk cs else none
  | _ => none
theorem keyOfAV_ok {own : Nat → Prop} {κ : MK} {x : AV} {key : List Int} {v : Value} (h : keyOfAV κ x = some key) (hv : V w own x ι v) : v = keyV κ key ∧ KeyOk κ key := by
 unfold keyOfAV at h
 cases ha : κ.agg with
 | false =>
  rw [ha] at h
  cases x <;> simp only at h <;> try (cases h; done)
  rename_i k y
  cases hc : (kEq κ.kk k && Nat.beq κ.n 1) with
  | false => rw [hc] at h; cases h
  | true =>
   rw [hc] at h
   cases h
   rw [Bool.and_eq_true] at hc
   have := Zd1.1 hc.1
   simp only [V] at hv
   refine ⟨?_, (Nat.eq_of_beq_eq_true hc.2).symm, fun z hz => ?_⟩
   ·simp only [keyV, ha, List.headD_cons, this]; exact hv.1
   ·simp only [List.mem_singleton] at hz
    rw [hz, this]; exact hv.2
 | true =>
  rw [ha] at h
  cases x <;> simp only at h <;> try (cases h; done)
  rename_i cs
  cases hc : Nat.beq cs.length κ.n with
  | false => rw [hc] at h; cases h
  | true =>
   rw [hc] at h
   simp only [cond_true] at h
   simp only [V] at hv
   obtain ⟨vs, rfl, hvs⟩ := hv
   obtain ⟨e1, e2, e3⟩ := intsOf_ok h hvs
   exact ⟨by simp only [keyV, ha, e1], by rw [e2]; exact Nat.eq_of_beq_eq_true hc, e3⟩
def Ze4 (T : Zbc) (σ : ASt) (fresh : Id) (t : Nat) : Option Ev := match T t with
 | some ⟨_, _, .map κ _ _, _⟩ => match σ.h fresh with
  | none => some ⟨none, .mp fresh, .alloc (.map (.assoc κ [])), []⟩
  | some _ => none
 | _ => none
theorem New.map (w : World) : New w (w.alloc (.map #[] 0)) :=
 ⟨rfl, rfl, rfl, by simp, fun k hk => Go.RowKit.Below.heap_alloc w _ k hk, fun b => by
  simp only [World.frozen?]
  rcases Nat.lt_trichotomy b.block w.heap.size with h | h | h
  ·rw [Go.RowKit.Below.heap_alloc w _ _ h]
  ·rw [h, heap_alloc_new, Array.getElem?_eq_none (Nat.le_refl _)]
  ·rw [Array.getElem?_eq_none (by omega : w.heap.size ≤ b.block), Array.getElem?_eq_none (by simp; omega)]⟩
theorem evMakeMap_ok (s : St n X σ ι a w) {o : Oper} {fresh : Id} {t : Nat} {e : Ev}
  (ho : o.op = .makeMap t none) (he : Ze4 T σ fresh t = some e) : OpOk P n X σ ι a w o fresh e.up e.val := by
 unfold Ze4 at he
 split at he <;> try (cases he; done)
 rename_i κ k el z hT
 cases hh : σ.h fresh with
 | some b => rw [hh] at he; cases he
 | none =>
  rw [hh] at he
  cases he
  refine OpOk.alloc s hh 0 (.map (.assoc κ [])) (.mp fresh) (.map (some w.heap.size)) (w.alloc (.map #[] 0)) (New.map w) ?_ ?_ ?_
  ·simp only [execOp, ho, Option.map_none]
   rfl
  ·rintro ι' rfl _ _
   exact ⟨#[], 0, heap_alloc_new _ _, MOk.empty κ⟩
  ·rintro ι' rfl
   simp only [V, Zav]
def evLookup (T : Zbc) (σ : ASt) (t : Nat) (x ix : AV) (commaOk : Bool) : Option Ev := match T t with
 | some ⟨_, _, .map κ _ _, _⟩ => match x with
  | .mp id => match σ.h id with
   | some (.map (.assoc κ' m)) => bif mkEq κ κ' then match keyOfAV κ ix with
    | some key => some ⟨none, bif commaOk then .tup [.int κ.vk ((Zcg m key).getD 0), .bool (Zcg m key).isSome] else .int κ.vk ((Zcg m key).getD 0), .none, [id]⟩
    | none => none
    else none
   | _ => none
  | _ => none
 | _ => none
theorem mp_at (s : St n X σ ι a w) {x : Operand} {id : Id} {b : MB} (hx : σ.opv x = .mp id) (hh : σ.h id = some (.map b)) : ∃ r c, ι id = some (.at r c) ∧ a.eval x = .map (some r) ∧ Zeq w ι r b := by
 have hv := s.opv x
 rw [hx] at hv
 simp only [V] at hv
 cases hl : ι id with
 | none => rw [hl] at hv; exact hv.elim
 | some l =>
  have hr := s.sim.rel id _ l hh hl
  rw [hl] at hv
  cases l with
  | nil => exact hv.elim
  | ghost => exact hv.elim
  | «at» r c => exact ⟨r, c, rfl, hv, hr⟩
theorem run_zero {e : TypeId} {i : TypeInfo} {z : Value} (h : P.info? e = some i) (hz : i.zero = some z) (w : World) : (zeroValue e).run P w = .ok z w := by
 simp [zeroValue, run_typeInfo w h, hz, Result.andThen]
theorem vk_zero (k : IntKind) : k.min ≤ 0 ∧ (0 : Int) ≤ k.max := by cases k <;> decide
theorem evLookup_ok (hT : TOk P T) (s : St n X σ ι a w) {o : Oper} {fresh : Id} {t : Nat} {x ix : Operand} {ok : Bool} {e : Ev}
  (ho : o.op = .lookup t x ix ok) (he : evLookup T σ t (σ.opv x) (σ.opv ix) ok = some e) : OpOk P n X σ ι a w o fresh e.up e.val := by
 unfold evLookup at he
 split at he <;> try (cases he; done)
 rename_i κ k el z hTt
 obtain ⟨ti, d, zv, hok⟩ := hT t _ hTt
 have hk := hok.kind
 cases d <;> simp only [TK.rel] at hk
 obtain ⟨rfl, rfl⟩ := hk
 have K := hok.keyed κ k el rfl
 split at he <;> try (cases he; done)
 rename_i id hx
 split at he <;> try (cases he; done)
 rename_i κ' m hh
 cases hc : mkEq κ κ' with
 | false => rw [hc] at he; cases he
 | true =>
  rw [hc] at he
  have := mkEq_iff hc; subst this
  simp only [cond_true] at he
  split at he <;> try (cases he; done)
  rename_i key hkey
  cases he
  obtain ⟨r, c, hl, hax, hm⟩ := mp_at s hx hh
  obtain ⟨es, clock, hb, hM⟩ := hm
  obtain ⟨hai, hko⟩ := keyOfAV_ok hkey (s.opv ix)
  obtain ⟨l, hl2⟩ := K.reads key hko
  obtain ⟨ei, hei, hez⟩ := K.elem
  have hchk := K.keyed.check w es.isEmpty hl2
  have hres : ∃ v ok', (Instr.findKey k (keyV κ key) es.toList).run P w = .ok (bif ok' then some v else none) w ∧ Zcg m key = (bif ok' then (match v.2 with | .int _ y => some y | _ => none) else none) ∧ (ok' = true → ∃ y, v.2 = .int κ.vk y ∧ κ.vk.min ≤ y ∧ y ≤ κ.vk.max) := by
   rcases K.keyed.find w hl2 es.toList (hM.keys K) with ⟨h1, h2⟩ | ⟨j, e0, h1, h2, h3⟩
   ·exact ⟨(0, undef), false, h1, mlook_none (hM.none h2), fun h => by cases h⟩
   ·obtain ⟨y, h4, h5⟩ := hM.at K.one hko h2 h3
    refine ⟨(j, e0.val), true, h1, ?_, fun _ => ⟨y, h5, (hM.ok _ (List.mem_of_getElem? h4)).2⟩⟩
    rw [mlook_at hM.nodup h4, h5]; rfl
  obtain ⟨v, ok', h1, h2, h3⟩ := hres
  have hval : ∃ y, κ.vk.min ≤ y ∧ y ≤ κ.vk.max ∧ y = (Zcg m key).getD 0 ∧ (Zcg m key).isSome = ok' ∧ (Instr.lookup t (.map (some r)) (keyV κ key) ok).run P w = .ok (if ok then .tuple #[.int κ.vk y, .bool ok'] else .int κ.vk y) w := by
   cases ok' with
   | false =>
    refine ⟨0, (vk_zero _).1, (vk_zero _).2, by rw [h2]; rfl, by rw [h2]; rfl, ?_⟩
    simp only [cond_false] at h1
    simp [Instr.lookup, run_underlying hok.und, run_getObj_map hb, hchk, h1, run_zero hei hez, Result.andThen]
   | true =>
    obtain ⟨y, h4, h5, h6⟩ := h3 rfl
    refine ⟨y, h5, h6, by rw [h2, h4]; rfl, by rw [h2, h4]; rfl, ?_⟩
    simp only [cond_true] at h1
    simp [Instr.lookup, run_underlying hok.und, run_getObj_map hb, hchk, h1, h4, Result.andThen]
  obtain ⟨y, hy1, hy2, hy3, hy4, hrun⟩ := hval
  refine OpOk.pure s (if ok then .tuple #[.int κ.vk y, .bool ok'] else .int κ.vk y) ?_ ?_
  ·simp only [execOp, ho, hax, hai]
   rw [Sem.run_bind, hrun]; rfl
  ·rw [← hy3, hy4]
   cases ok with
   | false => simp only [cond_false, V]; exact ⟨rfl, hy1, hy2⟩
   | true =>
    simp only [cond_true, V, Vs, if_true]
    exact ⟨[.int κ.vk y, .bool ok'], rfl, _, _, rfl, ⟨rfl, hy1, hy2⟩, _, _, rfl, rfl, rfl⟩
theorem OpOk.map (s : St n X σ ι a w) {o : Oper} {fresh : Id} {id : Id} {κ : MK} {m' : List (List Int × Int)} {r c : Nat} {es es' : Array MapEntry} {clock clock' : Nat} (hl : ι id = some (.at r c)) (hb : w.heap[r]? = some (.map es clock))
  (hM : MOk κ m' es' clock') {x : AV} {v : Value} {nx : Next} (hrun : (execOp a.eval o).run P w = .ok nx { w with heap := w.heap.setIfInBounds r (.map es' clock') }) (hn : nx = .value v ∨ nx = .skip ∧ v = undef) (hx : ∀ w' own ι', V w' own x ι' v) :
  OpOk P n X σ ι a w o fresh (.write id (.map (.assoc κ m'))) x := by
 have hs := heap_set (o' := .map es' clock') hb
 have hfz : ∀ b, World.frozen? { w with heap := w.heap.setIfInBounds r (.map es' clock') } b = w.frozen? b := by
  intro b
  simp only [World.frozen?]
  by_cases e : b.block = r
  ·rw [e, hs.1, hb]
  ·rw [hs.2 _ e]
 obtain ⟨s', k⟩ := s.sim.write (w' := { w with heap := w.heap.setIfInBounds r (.map es' clock') }) hl (.map (.assoc κ m')) (by simp) (fun k hk => hs.2 k hk) (fun _ => ⟨es', clock', hs.1, hM⟩)
 exact ⟨nx, v, _, ι, hrun, hn, s', fun y u' hy => Zbz k y u' (Sub.refl _) hy, hx _ _ _, ⟨⟨rfl, rfl, rfl, by simp, fun b' _ hno => hs.2 b' (fun e' => hno (e' ▸ ⟨id, c, hl⟩)), fun a _ => hfz a⟩, fun _ h => .inl h⟩⟩
def Zdo (T : Zbc) (σ : ASt) (t : Nat) (x ix y : AV) : Option Ev := match T t with
 | some ⟨_, _, .map κ _ _, _⟩ => match x with
  | .mp id => match σ.h id with
   | some (.map (.assoc κ' m)) => bif mkEq κ κ' then match keyOfAV κ ix with
    | some key => match y with
     | .int vk v => bif kEq κ.vk vk then some ⟨none, .any, .write id (.map (.assoc κ (mput m key v))), [id]⟩ else none
     | _ => none
    | none => none
    else none
   | _ => none
  | _ => none
 | _ => none
theorem evMapUpdate_ok (hT : TOk P T) (s : St n X σ ι a w) {o : Oper} {fresh : Id} {t : Nat} {x ix y : Operand} {e : Ev}
  (ho : o.op = .mapUpdate t x ix y) (he : Zdo T σ t (σ.opv x) (σ.opv ix) (σ.opv y) = some e) : OpOk P n X σ ι a w o fresh e.up e.val := by
 unfold Zdo at he
 split at he <;> try (cases he; done)
 rename_i κ k el z hTt
 obtain ⟨ti, d, zv, hok⟩ := hT t _ hTt
 have hk := hok.kind
 cases d <;> simp only [TK.rel] at hk
 obtain ⟨rfl, rfl⟩ := hk
 have K := hok.keyed κ k el rfl
 split at he <;> try (cases he; done)
 rename_i id hx
 split at he <;> try (cases he; done)
 rename_i κ' m hh
 cases hc : mkEq κ κ' with
 | false => rw [hc] at he; cases he
 | true =>
  rw [hc] at he
  have := mkEq_iff hc; subst this
  simp only [cond_true] at he
  split at he <;> try (cases he; done)
  rename_i key hkey
  split at he <;> try (cases he; done)
  rename_i vk v hy
  cases hkv : kEq κ.vk vk with
  | false => rw [hkv] at he; cases he
  | true =>
   rw [hkv] at he
   cases he
   have hvk := Zd1.1 hkv
   obtain ⟨r, c, hl, hax, hm⟩ := mp_at s hx hh
   obtain ⟨es, clock, hb, hM⟩ := hm
   obtain ⟨hai, hko⟩ := keyOfAV_ok hkey (s.opv ix)
   have hav := s.opv y
   rw [hy, ← hvk] at hav
   simp only [V] at hav
   obtain ⟨hav, hvr⟩ := hav
   obtain ⟨l, hl2⟩ := K.reads key hko
   have hchk := K.keyed.check w false hl2
   rcases K.keyed.find w hl2 es.toList (hM.keys K) with ⟨h1, h2⟩ | ⟨j, e0, h1, h2, h3⟩
   ·refine OpOk.map (fresh := fresh) s hl hb (hM.push hko hvr (hM.none h2)) (nx := .skip) (v := undef) ?_ (.inr ⟨rfl, rfl⟩) (fun _ _ _ => by simp only [V])
    simp only [execOp, ho, hax, hai, hav]
    simp [Instr.mapUpdate, run_underlying hok.und, run_getObj_map hb, hchk, h1, run_setObj_map _ hb, Result.andThen]
   ·obtain ⟨y0, h4, h5⟩ := hM.at K.one hko h2 h3
    refine OpOk.map (fresh := fresh) s hl hb (hM.modify hvr h4) (nx := .skip) (v := undef) ?_ (.inr ⟨rfl, rfl⟩) (fun _ _ _ => by simp only [V])
    have h2' : es[j]? = some e0 := by rw [← Array.getElem?_toList]; exact h2
    simp only [execOp, ho, hax, hai, hav]
    simp [Instr.mapUpdate, run_underlying hok.und, run_getObj_map hb, hchk, h1, h2', h3, K.keyed.stays w hl2, run_setObj_map _ hb, Result.andThen]
def evDelete (T : Zbc) (σ : ASt) (t : Nat) (x ix : AV) : Option Ev := match T t with
 | some ⟨_, _, .map κ _ _, _⟩ => match x with
  | .mp id => match σ.h id with
   | some (.map (.assoc κ' m)) => bif mkEq κ κ' then match keyOfAV κ ix with
    | some key => some ⟨none, .any, .write id (.map (.assoc κ (mdel m key))), [id]⟩
    | none => none
    else none
   | _ => none
  | _ => none
 | _ => none
theorem evDelete_ok (hT : TOk P T) (s : St n X σ ι a w) {o : Oper} {fresh : Id} {c_1 : Call} {t : Nat} {x ix : Operand} {e : Ev}
  (ho : o.op = .call c_1) (hc : c_1.callee = .builtin .delete) (ha : c_1.args = #[x, ix]) (ht : c_1.argTypes[0]? = some t) (he : evDelete T σ t (σ.opv x) (σ.opv ix) = some e) :
  OpOk P n X σ ι a w o fresh e.up e.val := by
 unfold evDelete at he
 split at he <;> try (cases he; done)
 rename_i κ k el z hTt
 obtain ⟨ti, d, zv, hok⟩ := hT t _ hTt
 have hk := hok.kind
 cases d <;> simp only [TK.rel] at hk
 obtain ⟨rfl, rfl⟩ := hk
 have K := hok.keyed κ k el rfl
 have run : ∀ v w', (Builtin.delete_ c_1.argTypes o.type #[a.eval x, a.eval ix]).run P w = .ok v w' → (execOp a.eval o).run P w = .ok (.value v) w' := by
  intro v w' h
  simp only [execOp, ho, resolve, hc, ha, Sem.run_bind, Sem.run_pure, Result.andThen_ok, invoke]
  simp [builtin, h]
 split at he <;> try (cases he; done)
 rename_i id hx
 split at he <;> try (cases he; done)
 rename_i κ' m hh
 cases hcc : mkEq κ κ' with
 | false => rw [hcc] at he; cases he
 | true =>
  rw [hcc] at he
  have := mkEq_iff hcc; subst this
  simp only [cond_true] at he
  split at he <;> try (cases he; done)
  rename_i key hkey
  cases he
  obtain ⟨r, c, hl, hax, hm⟩ := mp_at s hx hh
  obtain ⟨es, clock, hb, hM⟩ := hm
  obtain ⟨hai, hko⟩ := keyOfAV_ok hkey (s.opv ix)
  obtain ⟨l, hl2⟩ := K.reads key hko
  have hchk := K.keyed.check w es.isEmpty hl2
  rcases K.keyed.find w hl2 es.toList (hM.keys K) with ⟨h1, h2⟩ | ⟨j, e0, h1, h2, h3⟩
  ·have hM' : MOk κ (mdel m key) es clock := by rw [mdel_none (hM.none h2)]; exact hM
   refine OpOk.map (fresh := fresh) s hl hb hM' (nx := .value (.tuple #[])) (v := .tuple #[]) (run _ _ ?_) (.inl rfl) (fun _ _ _ => by simp only [V])
   simp [Builtin.delete_, ht, hax, hai, run_underlying hok.und, run_getObj_map hb, hchk, h1, run_setObj_map _ hb, Result.andThen]
  ·obtain ⟨y0, h4, h5⟩ := hM.at K.one hko h2 h3
   have hM' : MOk κ (mdel m key) (es.eraseIdxIfInBounds j) clock := by rw [mdel_at hM.nodup h4]; exact hM.erase j
   refine OpOk.map (fresh := fresh) s hl hb hM' (nx := .value (.tuple #[])) (v := .tuple #[]) (run _ _ ?_) (.inl rfl) (fun _ _ _ => by simp only [V])
   simp [Builtin.delete_, ht, hax, hai, run_underlying hok.und, run_getObj_map hb, hchk, h1, run_setObj_map _ hb, Result.andThen]
end
end Dv
namespace Dv
open Go
def evLenCall (T : Zbc) (σ : ASt) (args : List Operand) (ts : List TypeId) : Option Ev := match args with
 | [x] => match ts with
  | t :: _ => evLen T t (σ.opv x)
  | [] => none
 | _ => none
def evAppendCall (T : Zbc) (σ : ASt) (fresh : Id) (args : List Operand) (ts : List TypeId) : Option Ev := match args with
 | [x, y] => match ts with
  | [t, t'] => evAppend T σ fresh t t' (σ.opv x) (σ.opv y)
  | _ => none
 | _ => none
def evClearCall (T : Zbc) (σ : ASt) (args : List Operand) (ts : List TypeId) : Option Ev := match args with
 | [x] => match ts with
  | t :: _ => evClear T σ t (σ.opv x)
  | [] => none
 | _ => none
def evDeleteCall (T : Zbc) (σ : ASt) (args : List Operand) (ts : List TypeId) : Option Ev := match args with
 | [x, y] => match ts with
  | t :: _ => evDelete T σ t (σ.opv x) (σ.opv y)
  | [] => none
 | _ => none
def Zdh (T : Zbc) (σ : ASt) (fresh : Id) (op : Op) : Option Ev := match op with
 | .move x => Ev.pure (σ.opv x)
 | .assign x => Ev.pure (σ.opv x)
 | .load t x => evLoad T σ t (σ.opv x)
 | .store t x y => evStoreB T σ t (σ.opv x) (σ.opv y)
 | .fieldAddr t x k => evFieldAddr T t (σ.opv x) k
 | .field t x k => evField T t (σ.opv x) k
 | .indexAddr t x ix => evIndexAddr T t (σ.opv x) (σ.opv ix)
 | .index t x ix => evIndex T t (σ.opv x) (σ.opv ix)
 | .extract x k => evExtract (σ.opv x) k
 | .nilCheck x => evNil (σ.opv x)
 | .alloc t => evAlloc T σ fresh t
 | .box _ x => evBox σ fresh (σ.opv x)
 | .build t ps => evBuild T σ t ps.toList
 | .buildSlice t len ps => Zdb T σ fresh t len ps.toList
 | .makeSlice t l c => Zdp T σ fresh t (σ.opv l) (σ.opv c)
 | .makeFunc fn first captured => evMakeFunc σ fn first.toList captured.toList
 | .makeMap t r => match r with
  | none => Ze4 T σ fresh t
  | some _ => none
 | .lookup t x ix ok => evLookup T σ t (σ.opv x) (σ.opv ix) ok
 | .mapUpdate t x ix y => Zdo T σ t (σ.opv x) (σ.opv ix) (σ.opv y)
 | .slice t x lo hi mx => match mx with
  | none => evSlice T t (σ.opv x) (lo.map σ.opv) (hi.map σ.opv)
  | some _ => none
 | .binOp op t x y _ => match evBin op (σ.opv x) (σ.opv y) with
  | some e => some e
  | none => match op with
   | .eql => evEq T false t (σ.opv x) (σ.opv y)
   | .neq => evEq T true t (σ.opv x) (σ.opv y)
   | _ => none
 | .unOp op _ x => match op with
  | .not => evNot (σ.opv x)
  | .neg => evNeg (σ.opv x)
  | _ => none
 | .convert t t' x => match T t with
  | some _ => evConvert T t' (σ.opv x)
  | none => none
 | .call c => match c.callee with
  | .builtin .len => evLenCall T σ c.args.toList c.argTypes.toList
  | .builtin .append => evAppendCall T σ fresh c.args.toList c.argTypes.toList
  | .builtin .clear => evClearCall T σ c.args.toList c.argTypes.toList
  | .builtin .delete => evDeleteCall T σ c.args.toList c.argTypes.toList
  | _ => none
 | _ => none
section
variable {P : Program} {T : Zbc} {n : Nat} {X : Nat → Prop} {σ : ASt} {ι : Zai} {a : Act} {w : World}
theorem toList_one {α : Type} {xs : Array α} {x : α} (h : xs.toList = [x]) : xs = #[x] := by apply Array.ext'; simpa using h
theorem toList_two {α : Type} {xs : Array α} {x y : α} (h : xs.toList = [x, y]) : xs = #[x, y] := by apply Array.ext'; simpa using h
theorem evSimple_ok (hT : TOk P T) (s : St n X σ ι a w) {o : Oper} {fresh : Id} {e : Ev} (he : Zdh T σ fresh o.op = some e) (hb : ∀ p, e.obl = some p → p) :
  OpOk P n X σ ι a w o fresh e.up e.val := by
 cases hop : o.op <;> simp only [hop, Zdh] at he <;> try (cases he; done)
 case move x => cases he; exact evMove_ok s (.inl hop)
 case assign x => cases he; exact evMove_ok s (.inr hop)
 case alloc t => exact evAlloc_ok hT s hop he
 case box t x => exact evBox_ok s hop he
 case build t ps => exact evBuild_ok hT s hop he
 case buildSlice t len ps => exact evBuildSlice_ok hT s hop he
 case load t x => exact evLoad_ok hT s hop he hb
 case store t x y => exact evStoreB_ok hT s hop he hb
 case nilCheck x => exact evNil_ok s hop he
 case binOp op t x y t' =>
  cases hbin : evBin op (σ.opv x) (σ.opv y) with
  | some e' => simp only [hbin] at he; cases he; exact evBin_ok s hop hbin hb
  | none =>
   simp only [hbin] at he
   cases op <;> simp only at he <;> try (cases he; done)
   ·exact evEq_ok (neg := false) hT s hop he hb
   ·exact evEq_ok (neg := true) hT s hop he hb
 case unOp op t x =>
  cases op <;> simp only at he <;> try (cases he; done)
  ·exact evNeg_ok s hop he
  ·exact evNot_ok s hop he
 case convert t t' x =>
  cases ht : T t with
  | none => simp [ht] at he
  | some ti =>
   simp only [ht] at he
   obtain ⟨i, d, z, hok⟩ := hT t _ ht
   exact evConvert_ok hT s hok.und hop he
 case makeFunc fn first captured => exact evMakeFunc_ok s hop he
 case makeSlice t l c => exact evMakeSlice_ok hT s hop he hb
 case makeMap t r =>
  cases r with
  | some _ => cases he
  | none => exact evMakeMap_ok s hop he
 case lookup t x ix ok => exact evLookup_ok hT s hop he
 case mapUpdate t x ix y => exact evMapUpdate_ok hT s hop he
 case slice t x lo hi mx =>
  cases mx with
  | some _ => cases he
  | none => exact evSlice_ok hT s hop he hb
 case fieldAddr t x k => exact evFieldAddr_ok hT s hop he
 case field t x k => exact evField_ok hT s hop he
 case indexAddr t x ix => exact evIndexAddr_ok hT s hop he hb
 case index t x ix => exact evIndex_ok hT s hop he hb
 case extract x k => exact evExtract_ok s hop he
 case call c =>
  cases hc : c.callee <;> simp only [hc] at he <;> try (cases he; done)
  rename_i bi
  cases bi <;> simp only at he <;> try (cases he; done)
  ·-- append
   unfold evAppendCall at he
   split at he
   ·rename_i x y hargs
    split at he
    ·rename_i t t' hts
     exact evAppend_ok hT s hop hc (toList_two hargs) (toList_two hts) he hb
    ·cases he
   ·cases he
  ·-- clear
   unfold evClearCall at he
   split at he
   ·rename_i x hargs
    split at he
    ·rename_i t r hts
     refine evClear_ok hT s hop hc (toList_one hargs) ?_ he hb
     have : c.argTypes[0]? = c.argTypes.toList[0]? := by simp
     rw [this, hts]; rfl
    ·cases he
   ·cases he
  ·-- delete
   unfold evDeleteCall at he
   split at he
   ·rename_i x y hargs
    split at he
    ·rename_i t r hts
     refine evDelete_ok hT s hop hc (toList_two hargs) ?_ he
     have : c.argTypes[0]? = c.argTypes.toList[0]? := by simp
     rw [this, hts]; rfl
    ·cases he
   ·cases he
  ·-- len
   unfold evLenCall at he
   split at he
   ·rename_i x hargs
    split at he
    ·rename_i t r hts
     refine evLen_ok hT s hop hc (toList_one hargs) ?_ he
     have : c.argTypes[0]? = c.argTypes.toList[0]? := by simp
     rw [this, hts]; rfl
    ·cases he
   ·cases he
end
def memG : List (Nat × Bool) → Nat → Bool → Bool
 | [], _, _ => false
 | (i, c) :: r, j, b => (Nat.beq i j && (c == b)) || memG r j b
def view (gs : List (Nat × Bool)) (x : AV) : AV := match x with
 | .guard j b v => bif memG gs j b then v else .any
 | x => x
def ASt.viewS (gs : List (Nat × Bool)) (σ : ASt) : ASt := ⟨fun t => view gs (σ.tm t), σ.h⟩
def ASt.clean (σ : ASt) : ASt := σ.viewS []
theorem memG_spec : ∀ {gs : List (Nat × Bool)} {j : Nat} {b : Bool}, memG gs j b = true → (j, b) ∈ gs
 | [], _, _, h => by cases h
 | (i, c) :: r, j, b, h => by
   simp only [memG, Bool.or_eq_true, Bool.and_eq_true, beq_iff_eq] at h
   rcases h with ⟨h1, h2⟩ | h
   ·have := Nat.eq_of_beq_eq_true h1; subst this; subst h2; exact List.mem_cons_self
   ·exact List.mem_cons_of_mem _ (memG_spec h)
def Zas : List Oper → List Nat
 | [] => []
 | o :: r => match o.guard with
  | some (j, _) => j :: Zas r
  | none => Zas r
theorem Zda : ∀ {l : List Oper} {i : Nat} {o : Oper} {j : Nat} {b : Bool}, l[i]? = some o → o.guard = some (j, b) → j ∈ Zas l
 | [], i, o, j, b, h, _ => by simp at h
 | p :: r, 0, o, j, b, h, hg => by simp at h; subst h; simp [Zas, hg]
 | p :: r, i + 1, o, j, b, h, hg => by
   have := Zda (l := r) (i := i) (by simpa using h) hg
   simp only [Zas]
   split
   ·exact List.mem_cons_of_mem _ this
   ·exact this
structure StG (ops : Array Oper) (n : Nat) (X : Nat → Prop) (σ : ASt) (ι : Zai) (a : Act) (w : World) : Prop where
 sim : Sim X σ.h ι w
 defers : a.defers = []
 size : a.tmps.size = n
 tm : ∀ t, (∀ j b v, σ.tm t ≠ .guard j b v) → V w (Own X ι) (σ.tm t) ι (a.tmps.getD t undef)
 gd : ∀ t j b v, σ.tm t = .guard j b v → j ∈ Zas ops.toList ∧ (yielded ops a.tmps j = some b → V w (Own X ι) v ι (a.tmps.getD t undef)) ∧ (yielded ops a.tmps j ≠ some b → a.tmps.getD t undef = undef)
theorem StG.of_St {ops : Array Oper} {n : Nat} {X : Nat → Prop} {σ : ASt} {ι : Zai} {a : Act} {w : World} (s : St n X σ ι a w) : StG ops n X σ ι a w :=
 ⟨s.sim, s.defers, s.size, fun t _ => s.tm t, fun t j b v e => by have := s.tm t; rw [e] at this; simp only [V] at this⟩
theorem StG.view {ops : Array Oper} {n : Nat} {X : Nat → Prop} {σ : ASt} {ι : Zai} {a : Act} {w : World} (s : StG ops n X σ ι a w) (gs : List (Nat × Bool)) (hg : ∀ j b, (j, b) ∈ gs → yielded ops a.tmps j = some b) :
  St n X (σ.viewS gs) ι a w := by
 refine ⟨s.sim, s.defers, s.size, fun t => ?_⟩
 show V w (Own X ι) (Dv.view gs (σ.tm t)) ι _
 cases hq : σ.tm t with
 | guard j b v =>
  simp only [Dv.view]
  cases hm : memG gs j b with
  | false => simp [V]
  | true => exact (s.gd t j b v hq).2.1 (hg j b (memG_spec hm))
 | _ => simp only [Dv.view]; rw [← hq]; exact s.tm t (fun j b v e => by rw [hq] at e; cases e)
theorem StG.clean {ops : Array Oper} {n : Nat} {X : Nat → Prop} {σ : ASt} {ι : Zai} {a : Act} {w : World} (s : StG ops n X σ ι a w) : St n X σ.clean ι a w :=
 s.view [] (fun _ _ h => by cases h)
structure Zeb (P : Program) (f : FuncId) : Prop where
 ex : ∃ fn, P.funcs[f]? = some fn ∧ fn.body.isSome = true ∧ (fn.name == "runtime.NumGoroutine") = false
theorem run_callFunc {P : Program} {f : FuncId} (h : Zeb P f) (args : Array Value) (w : World) : (callFunc f args).run P w = .ok (.enter f args) w := by
 obtain ⟨fn, h1, h2, h3⟩ := h.ex
 have h4 : fn.body ≠ none := by cases hb : fn.body <;> simp [hb] at h2 ⊢
 have h5 : fn.name ≠ "runtime.NumGoroutine" := by simpa using h3
 simp [callFunc, program, Sem.run, h1, h4, h5, Sem.run_bind]
inductive CU where
 | no
 | new (b : Zau)
 | put (i : Id) (b : Zau)
def CU.up : CU → Up
 | .no => .none
 | .new b => .alloc b
 | .put i b => .write i b
def CU.heap (fresh : Id) (h : Zaq) : CU → Zaq
 | .no => h
 | .new b => updH h fresh (some b)
 | .put i b => updH h i (some b)
def CU.isNew : CU → Bool
 | .new _ => true
 | _ => false
def QC (P : Program) (h : Zaq) (f : FuncId) (args : List AV) (rd : List Id) (fresh : Id) (u : CU) (r : AV) : Prop :=
 Zeb P f ∧ (u.isNew = true → h fresh = none) ∧ ∀ (h' : Zaq), (∀ i ∈ rd, h' i = h i) → (u.isNew = true → h' fresh = h fresh) → ∀ (X : Nat → Prop) (ι : Zai) (w : World) (vals : List Value), Sim X h' ι w → Vs w (Own X ι) args ι vals →
  Calls P f vals.toArray w fun e w' => ∃ v ι', e = .returned v ∧ Sim X (u.heap fresh h') ι' w' ∧
   (∀ y u', V w (Own X ι) y ι u' → V w' (Own X ι') y ι' u') ∧ V w' (Own X ι') r ι' v ∧ Goes X ι ι' w w'
def QH (P : Program) (h : Zaq) (f : FuncId) (args : List AV) (dead : List Id) (ups : Zaq) (r : AV) : Prop :=
 Zeb P f ∧ ∀ (X : Nat → Prop) (ι : Zai) (w : World) (vals : List Value), Sim X h ι w → Vs w (Own X ι) args ι vals →
  Calls P f vals.toArray w fun e w' => ∃ v ι', e = .returned v ∧ Sim X (bigH dead ups h) ι' w' ∧
   (∀ y u', V w (Own X ι) y ι u' → V w' (Own X ι') (mapK dead y) ι' u') ∧ V w' (Own X ι') r ι' v ∧ Goes X ι ι' w w'
def nthO : List Oper → Nat → Option Oper
 | [], _ => none
 | o :: _, 0 => some o
 | _ :: r, k + 1 => nthO r k
theorem nthO_eq : ∀ (l : List Oper) (k : Nat), nthO l k = l[k]?
 | [], k => by simp [nthO]
 | o :: _, 0 => by simp [nthO]
 | _ :: r, k + 1 => by simp [nthO, nthO_eq r k]
def Zfq (all : List Oper) (j : Nat) : Option Tmp := match nthO all j with
 | some o => o.dst
 | none => none
def memN : List Nat → Nat → Bool
 | [], _ => false
 | i :: r, j => Nat.beq i j || memN r j
theorem memN_iff : ∀ {l : List Nat} {j : Nat}, memN l j = true ↔ j ∈ l
 | [], j => by simp [memN]
 | i :: r, j => by
   simp only [memN, Bool.or_eq_true, memN_iff (l := r), List.mem_cons]
   constructor
   ·rintro (h | h)
    ·exact .inl (Nat.eq_of_beq_eq_true h).symm
    ·exact .inr h
   ·rintro (h | h)
    ·subst h; exact .inl (Nat.beq_refl _)
    ·exact .inr h
def Zaw (o : Oper) : Id := match o.dst with
 | some d => (d, 0, 0)
 | none => (0, 1, 0)
def gsOf (o : Oper) : List (Nat × Bool) := match o.guard with
 | none => []
 | some g => [g]
def hypG (all : List Oper) (σ : ASt) : Nat → Nat × Bool → Prop
 | 0, _ => True
 | k + 1, (j, b) => match Zfq all j with
  | some d => match σ.tm d with
   | .bool x => x = b
   | .guard j' b' (.bool x) => x = b ∧ hypG all σ k (j', b')
   | _ => True
  | none => True
def under (all : List Oper) (σ : ASt) (o : Oper) (p : Prop) : Prop := match o.guard with
 | none => p
 | some g => hypG all σ 4 g → p
structure Eff where
 val : AV
 up : Up
 rd : List Id
def Zd6 (d : Tmp) : List Oper → Nat → Nat
 | [], k => k
 | o :: r, k => match o.dst with
  | some e => bif Nat.beq e d then k else Zd6 d r (k + 1)
  | none => Zd6 d r (k + 1)
def evPick (all : List Oper) (σ : ASt) (o : Oper) (c x y : Operand) (K : Eff → Prop) : Prop :=
 match (σ.viewS (gsOf o)).opv c with
 | .bool b => match c with
  | .tmp d => match Zfq all (Zd6 d all 0) with
   | some _ => K ⟨pickAV b ((σ.viewS ((Zd6 d all 0, true) :: gsOf o)).opv x) ((σ.viewS ((Zd6 d all 0, false) :: gsOf o)).opv y), .none, []⟩
   | none => K ⟨pickAV b ((σ.viewS (gsOf o)).opv x) ((σ.viewS (gsOf o)).opv y), .none, []⟩
  | _ => K ⟨pickAV b ((σ.viewS (gsOf o)).opv x) ((σ.viewS (gsOf o)).opv y), .none, []⟩
 | _ => False
def Zcr (T : Zbc) (all : List Oper) (σ : ASt) (o : Oper) (K : Eff → Prop) : Prop :=
 match Zdh T (σ.viewS (gsOf o)) (Zaw o) o.op with
 | some ⟨obl, v, u, rd⟩ => match obl with
  | none => K ⟨v, u, rd⟩
  | some p => under all σ o p ∧ K ⟨v, u, rd⟩
 | none => False
def evCall (P : Program) (all : List Oper) (σ : ASt) (o : Oper) (f : AV) (args : List AV) (K : Eff → Prop) : Prop :=
 match f with
 | .fn g cap => (∃ r rd u, under all σ o (QC P σ.h g (args ++ cap) rd (Zaw o) u r) ∧ K ⟨r, u.up, rd⟩) ∨
   (∃ r dead ups, under all σ o (QH P σ.h g (args ++ cap) dead ups r) ∧ K ⟨r, .big dead ups, []⟩)
 | _ => False
def evOp (P : Program) (T : Zbc) (all : List Oper) (σ : ASt) (o : Oper) (K : Eff → Prop) : Prop :=
 match o.op with
 | .pick c x y => evPick all σ o c x y K
 | .call c => match c.callee with
  | .value f => evCall P all σ o ((σ.viewS (gsOf o)).opv f) (c.args.toList.map (σ.viewS (gsOf o)).opv) K
  | _ => Zcr T all σ o K
 | _ => Zcr T all σ o K
def clearV (k : Nat) (x : AV) : AV := match x with
 | .guard j b v => bif Nat.beq j k then .any else .guard j b v
 | x => x
def clearG (k : Nat) (σ : ASt) : ASt := ⟨fun t => clearV k (σ.tm t), σ.h⟩
def gval (g : Option (Nat × Bool)) (v : AV) : AV := match g with
 | none => (match v with | .guard _ _ _ => .any | x => x)
 | some (j, b) => match v with
  | .any => .any
  | .guard _ _ _ => .any
  | x => .guard j b x
def appS (all : List Oper) (k : Nat) (o : Oper) (v : AV) (u : Up) (σ : ASt) : ASt :=
 (bif memN (Zas all) k then clearG k (upS (Zaw o) u σ) else upS (Zaw o) u σ).put o.dst (gval o.guard v)
def pinId (i : Id) : Bool := Nat.beq i.2.1 7 || Nat.ble 1000 i.1
def noPin : List Id → Bool
 | [] => true
 | i :: r => !pinId i && noPin r
theorem noPin_spec {i : Id} : ∀ {l : List Id}, noPin l = true → i ∈ l → pinId i = false
 | [], _, h => by cases h
 | j :: r, hp, h => by
   simp only [noPin, Bool.and_eq_true, Bool.not_eq_true'] at hp
   rcases List.mem_cons.1 h with e | e
   ·subst e; exact hp.1
   ·exact noPin_spec hp.2 e
def loosens : Option Zau → Zau → Bool
 | some (.row _ sz _ _), .row _ sz' n' _ => Nat.beq sz sz' && Nat.beq n' 0
 | _, _ => false
theorem loosens_sim {X : Nat → Prop} {h : Zaq} {ι : Zai} {w : World} (s : Sim X h ι w) {i : Id} {b : Zau} (hl : loosens (h i) b = true) : Sim X (updH h i (some b)) ι w := by
 cases hi : h i with
 | none => rw [hi] at hl; cases hl
 | some b0 =>
  rw [hi] at hl
  refine ⟨fun j => ?_, fun j blk l e1 e2 => ?_, s.inj, s.apart, s.below⟩
  ·by_cases hj : j = i
   ·subst hj; rw [Zbw, s.dom j, hi]; rfl
   ·rw [Zcv hj]; exact s.dom j
  ·by_cases hj : j = i
   ·subst hj
    rw [Zbw] at e1; cases e1
    have hr := s.rel j b0 l hi e2
    cases b0 with
    | map m => cases hl
    | row imm sz n f =>
     cases b with
     | map m => cases hl
     | row imm' sz' n' f' =>
      simp only [loosens, Bool.and_eq_true] at hl
      have h1 := Nat.eq_of_beq_eq_true hl.1
      have h2 := Nat.eq_of_beq_eq_true hl.2
      subst h1; subst h2
      cases l with
      | nil => rfl
      | ghost => trivial
      | «at» bb c =>
       obtain ⟨arr, T, e, k1, k2, _⟩ := hr
       exact ⟨arr, T, e, Nat.zero_le _, k2, fun i hi => absurd hi (Nat.not_lt_zero i)⟩
   ·rw [Zcv hj] at e1; exact s.rel j blk l e1 e2
def upOk (all : List Oper) (σ : ASt) (o : Oper) (u : Up) : Bool := match u with
 | .none => true
 | .alloc _ | .box _ | .bld _ _ _ => (match o.guard with
  | none => true
  | some _ => match σ.h (Zaw o) with | none => true | some _ => false)
 | .write i b => (match o.guard with
  | none => true
  | some _ => loosens (σ.h i) b)
 | .wr _ _ _ _ _ _ _ => o.guard.isNone
 | .move i _ => (Zas all).isEmpty && !pinId i
 | .big dead _ => (Zas all).isEmpty && noPin dead
mutual
/-- A value, its outside worked out. -/
def forceL (cs : List AV) (k : List AV → Prop) : Prop := match cs with
 | [] => k []
 | c :: r => Zcq c fun c' => forceL r fun r' => k (c' :: r')
termination_by structural cs
def Zcq (x : AV) (k : AV → Prop) : Prop := match x with
 | .any => k .any
 | .int kd n => k (.int kd n)
 | .bool b => k (.bool b)
 | .str s => k (.str s)
 | .agg cs => forceL cs fun cs' => k (.agg cs')
 | .tup cs => forceL cs fun cs' => k (.tup cs')
 | .sl sz n f => k (.sl sz n f)
 | .nsl => k .nsl
 | .ip cs => forceL cs fun cs' => k (.ip cs')
 | .np => k .np
 | .rs i sz st len => k (.rs i sz st len)
 | .rp i sz st j => k (.rp i sz st j)
 | .bp i j => k (.bp i j)
 | .mp i => k (.mp i)
 | .fn f cs => forceL cs fun cs' => k (.fn f cs')
 | .ifc t x => Zcq x fun x' => k (.ifc t x')
 | .nif => k .nif
 | .nfn => k .nfn
 | .is v => k (.is v)
 | .guard j b x => k (.guard j b x)
termination_by structural x
end
mutual
theorem Zci (cs : List AV) (k : List AV → Prop) : forceL cs k = k cs := by
 cases cs with
 | nil => simp only [forceL]
 | cons c r => simp only [forceL]; rw [Zbr c]; rw [Zci r]
termination_by structural cs
theorem Zbr (x : AV) (k : AV → Prop) : Zcq x k = k x := by
 cases x with
 | agg cs => simp only [Zcq]; rw [Zci cs]
 | tup cs => simp only [Zcq]; rw [Zci cs]
 | ip cs => simp only [Zcq]; rw [Zci cs]
 | fn f cs => simp only [Zcq]; rw [Zci cs]
 | ifc t x => simp only [Zcq]; rw [Zbr x]
 | _ => simp only [Zcq]
termination_by structural x
end
def Zej (b : Bool) (p : Prop) : Prop := match b with
 | true => p
 | false => False
section
variable {P : Program} {T : Zbc} {n : Nat} {X : Nat → Prop} {all : List Oper}
def Did (P : Program) (X : Nat → Prop) (σ : ASt) (ι : Zai) (a : Act) (w : World) (o : Oper) (e : Eff) (a' : Act) (w' : World) : Prop :=
 ∃ v ι', a' = a.put o.dst v ∧ Sim X (upS (Zaw o) e.up σ).h ι' w' ∧ (∀ y u', V w (Own X ι) y ι u' → V w' (Own X ι') (trU e.up y) ι' u') ∧ V w' (Own X ι') e.val ι' v ∧ Goes X ι ι' w w'
theorem dstOf_eq (all : List Oper) (j : Nat) : Zfq all j = (all.toArray[j]?).bind (·.dst) := by
 simp only [Zfq, nthO_eq]
 cases h : all[j]? with
 | none => simp [h]
 | some o => simp [h]
theorem yielded_eq (a : Act) (j : Nat) (b : Bool) : yielded all.toArray a.tmps j = some b ↔ ∃ d, Zfq all j = some d ∧ a.tmps[d]? = some (.bool b) := by
 simp only [yielded, ← dstOf_eq]
 cases hd : Zfq all j with
 | none => simp
 | some d =>
  simp only [Option.bind_some]
  cases ht : a.tmps[d]? with
  | none => simp [ht]
  | some v =>
   cases v <;> simp [ht]
theorem getD_of_get {a : Act} {d : Nat} {v : Value} (h : a.tmps[d]? = some v) : a.tmps.getD d undef = v := by
 simp [Array.getD_eq_getD_getElem?, h]
theorem hypG_of {σ : ASt} {ι : Zai} {a : Act} {w : World} (s : StG all.toArray n X σ ι a w) : ∀ (k : Nat) (g : Nat × Bool), yielded all.toArray a.tmps g.1 = some g.2 → hypG all σ k g
 | 0, _, _ => trivial
 | k + 1, (j, b), h => by
   obtain ⟨d, hd, ht⟩ := (yielded_eq a j b).1 h
   simp only [hypG, hd]
   cases hq : σ.tm d with
   | bool x =>
    have := s.tm d (fun j b v e => by rw [hq] at e; cases e)
    rw [hq, getD_of_get ht] at this
    simp only [V] at this
    cases this; rfl
   | guard j' b' v =>
    cases hv : v with
    | bool x =>
     have hg := s.gd d j' b' v hq
     by_cases hy : yielded all.toArray a.tmps j' = some b'
     ·have := hg.2.1 hy
      rw [hv, getD_of_get ht] at this
      simp only [V] at this
      cases this
      exact ⟨rfl, hypG_of s k (j', b') hy⟩
     ·have := hg.2.2 hy
      rw [getD_of_get ht] at this
      simp [undef] at this
    | _ => trivial
   | _ => trivial
theorem under_of {σ : ASt} {ι : Zai} {a : Act} {w : World} (s : StG all.toArray n X σ ι a w) {o : Oper} {p : Prop} (hw : Region.wanted o (yielded all.toArray a.tmps) = true) (h : under all σ o p) : p := by
 unfold under at h
 unfold Region.wanted at hw
 cases hg : o.guard with
 | none => rw [hg] at h; exact h
 | some g =>
  rw [hg] at h hw
  exact h (hypG_of s 4 g (by simpa using hw))
theorem gsOf_of {a : Act} {o : Oper} (hw : Region.wanted o (yielded all.toArray a.tmps) = true) : ∀ j b, (j, b) ∈ gsOf o → yielded all.toArray a.tmps j = some b := by
 intro j b h
 unfold gsOf at h
 unfold Region.wanted at hw
 cases hg : o.guard with
 | none => rw [hg] at h; cases h
 | some g =>
  rw [hg] at h hw
  simp at h
  subst h
  simpa using hw
theorem finds_spec (d : Tmp) : ∀ (l : List Oper) (k : Nat) (o : Oper), l[Zd6 d l k - k]? = some o → k ≤ Zd6 d l k ∧ (Zd6 d l k - k < l.length → o.dst = some d)
 | [], k, o, h => by simp [Zd6] at h
 | p :: r, k, o, h => by
   have hk : ∀ (r : List Oper) (k : Nat), k ≤ Zd6 d r k := by
    intro r
    induction r with
    | nil => intro k; simp [Zd6]
    | cons q r ih =>
     intro k
     simp only [Zd6]
     split
     ·rename_i e _
      cases Nat.beq e d with
      | true => simp
      | false => simp only [cond_false]; have := ih (k + 1); omega
     ·have := ih (k + 1); omega
   simp only [Zd6] at h ⊢
   split at h
   ·rename_i e he
    cases hq : Nat.beq e d with
    | true =>
     simp only [hq, cond_true, Nat.sub_self] at h ⊢
     simp at h
     subst h
     exact ⟨Nat.le_refl _, fun _ => by rw [he, Nat.eq_of_beq_eq_true hq]⟩
    | false =>
     simp only [hq, cond_false] at h ⊢
     have h1 := hk r (k + 1)
     rw [show Zd6 d r (k + 1) - k = (Zd6 d r (k + 1) - (k + 1)) + 1 by omega, List.getElem?_cons_succ] at h
     have := finds_spec d r (k + 1) o h
     exact ⟨by omega, fun hlt => this.2 (by simp at hlt; omega)⟩
   ·have h1 := hk r (k + 1)
    rw [show Zd6 d r (k + 1) - k = (Zd6 d r (k + 1) - (k + 1)) + 1 by omega, List.getElem?_cons_succ] at h
    have := finds_spec d r (k + 1) o h
    exact ⟨by omega, fun hlt => this.2 (by simp at hlt; omega)⟩
theorem finds_dst {d : Tmp} {d' : Tmp} (h : Zfq all (Zd6 d all 0) = some d') : d' = d := by
 simp only [Zfq, nthO_eq] at h
 cases ho : all[Zd6 d all 0]? with
 | none => rw [ho] at h; cases h
 | some o =>
  rw [ho] at h
  have := finds_spec d all 0 o (by simpa using ho)
  have hlt : Zd6 d all 0 < all.length := (List.getElem?_eq_some_iff.1 ho).1
  have := this.2 (by omega)
  simp only at h
  rw [this] at h
  exact (Option.some.inj h).symm
theorem evOp_sound (hT : TOk P T) {σ : ASt} {ι : Zai} {a : Act} {w : World} (s : StG all.toArray n X σ ι a w) {o : Oper} (hw : Region.wanted o (yielded all.toArray a.tmps) = true)
  {K : Eff → Prop} (h : evOp P T all σ o K) {Q : Exit → Act → World → Prop} : ∃ e, K e ∧ o.wp P a w (Did P X σ ι a w o e) Q := by
 have sv := s.view (gsOf o) (gsOf_of hw)
 have plain : Zcr T all σ o K → ∃ e, K e ∧ o.wp P a w (Did P X σ ι a w o e) Q := by
  intro h
  unfold Zcr at h
  cases he : Zdh T (σ.viewS (gsOf o)) (Zaw o) o.op with
  | none => rw [he] at h; exact h.elim
  | some e =>
   obtain ⟨obl, v, u, rd⟩ := e
   rw [he] at h
   simp only at h
   have : (∀ p, obl = some p → p) ∧ K ⟨v, u, rd⟩ := by
    cases obl with
    | none => exact ⟨(fun _ e => by cases e), h⟩
    | some p => exact ⟨(fun q e => by cases e; exact under_of s hw h.1), h.2⟩
   obtain ⟨r, v', w', ι', h1, h2, h3, h4, h5, h6⟩ := evSimple_ok (P := P) hT sv he this.1
   refine ⟨_, this.2, ?_⟩
   have h3' : Sim X (upS (Zaw o) u σ).h ι' w' := by
    cases u <;> exact h3
   unfold Oper.wp
   rw [h1]
   rcases h2 with h2 | ⟨h2, h2'⟩
   ·subst h2; exact ⟨v', ι', rfl, h3', h4, h5, h6⟩
   ·subst h2; subst h2'; exact ⟨undef, ι', rfl, h3', h4, h5, h6⟩
 unfold evOp at h
 split at h
 ·-- pick
  rename_i c x y hop
  unfold evPick at h
  split at h
  ·rename_i b hc
   have hcv := sv.opv c
   rw [hc] at hcv
   simp only [V] at hcv
   have hrun : (execOp a.eval o).run P w = .ok (.value (if b then a.eval x else a.eval y)) w := by
    cases b <;> simp [execOp, hop, hcv, asBool]
   split at h
   ·rename_i d
    split at h
    ·rename_i d0 hd0
     refine ⟨_, h, ?_⟩
     unfold Oper.wp
     rw [hrun]
     refine ⟨_, ι, rfl, s.sim, fun _ _ h => h, ?_, Goes.refl X ι w⟩
     have side : ∀ q : Bool, b = q → St n X (σ.viewS ((Zd6 d all 0, q) :: gsOf o)) ι a w := by
      intro q hq
      refine s.view _ (fun j b' hm => ?_)
      rcases List.mem_cons.1 hm with e | e
      ·cases e
       refine (yielded_eq a _ _).2 ⟨d0, hd0, ?_⟩
       have := finds_dst hd0
       subst this
       simp only [Act.eval, Array.getD_eq_getD_getElem?] at hcv
       cases hq2 : a.tmps[d0]? with
       | none => rw [hq2] at hcv; simp [undef] at hcv
       | some v => rw [hq2] at hcv; simp at hcv; rw [hcv, hq]
      ·exact gsOf_of hw j b' e
     exact pickAV_V b (fun hb => (side true hb).opv x) (fun hb => (side false hb).opv y)
    ·refine ⟨_, h, ?_⟩
     unfold Oper.wp
     rw [hrun]
     exact ⟨_, ι, rfl, s.sim, fun _ _ h => h, pickAV_V b (fun _ => sv.opv x) (fun _ => sv.opv y), Goes.refl X ι w⟩
   ·refine ⟨_, h, ?_⟩
    unfold Oper.wp
    rw [hrun]
    exact ⟨_, ι, rfl, s.sim, fun _ _ h => h, pickAV_V b (fun _ => sv.opv x) (fun _ => sv.opv y), Goes.refl X ι w⟩
  ·exact h.elim
 ·-- call
  rename_i c hop
  split at h
  ·rename_i f hcal
   unfold evCall at h
   split at h
   ·rename_i g cap hf
    have hfv := sv.opv f
    rw [hf] at hfv
    simp only [V] at hfv
    obtain ⟨cvs, hfe, hcV⟩ := hfv
    have hargs := Ze8 (ops_V sv c.args.toList) hcV
    have hrun : Zeb P g → (execOp a.eval o).run P w = .ok (.enter g (c.args.map a.eval ++ cvs.toArray)) w := by
     intro hcb
     simp only [execOp, hop, resolve, hcal, Sem.run_bind, Deferred.ofValue, hfe, Sem.run_pure, Result.andThen_ok, invoke]
     rw [run_callFunc hcb]
     congr 2
     simp
    have hvals : (c.args.map a.eval ++ cvs.toArray) = (c.args.toList.map a.eval ++ cvs).toArray := by apply Array.ext'; simp
    rcases h with ⟨r, rd, u, hq, hK⟩ | ⟨r, dead, ups, hq, hK⟩
    ·refine ⟨_, hK, ?_⟩
     obtain ⟨hcb, hfr, hq⟩ := under_of s hw hq
     unfold Oper.wp
     rw [hrun hcb]
     simp only [Oper.upon]
     rw [hvals]
     refine (hq σ.h (fun _ _ => rfl) (fun _ => rfl) X ι w _ s.sim hargs).mono ?_
     rintro e w' ⟨v, ι', rfl, h1, h2, h3, h4⟩
     refine ⟨v, ι', rfl, ?_, ?_, h3, h4⟩
     ·cases u <;> exact h1
     ·cases u <;> exact h2
    ·refine ⟨_, hK, ?_⟩
     obtain ⟨hcb, hq⟩ := under_of s hw hq
     unfold Oper.wp
     rw [hrun hcb]
     simp only [Oper.upon]
     rw [hvals]
     refine (hq X ι w _ s.sim hargs).mono ?_
     rintro e w' ⟨v, ι', rfl, h1, h2, h3, h4⟩
     exact ⟨v, ι', rfl, h1, h2, h3, h4⟩
   ·exact h.elim
  ·exact plain h
 ·exact plain h
end
end Dv
