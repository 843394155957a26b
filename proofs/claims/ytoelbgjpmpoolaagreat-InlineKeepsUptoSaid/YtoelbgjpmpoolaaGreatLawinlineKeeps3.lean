/- A module laid open may be; run 20 times as long it tells, and ends, as the module does, but for too many frames. -/
import Derived.Test.YtoelbgjpmpoolaaGreatDvc3
import Derived.Test.YtoelbgjpmpoolaaGreatLawinlineKeeps2
import Derived.Test.YtoelbgjpmpoolaaGreatRows
import Derived.WalkKit
import Derived.ProofKit
import Derived.OpenShut
import Derived.JoinedCond
set_option linter.unusedVariables false
set_option linter.unusedSimpArgs false
set_option linter.unnecessarySimpa false
namespace Go.Proofs.YtoelbgjpmpoolaaGreat
open Go Dv
set_option maxRecDepth 10000
set_option linter.unusedSimpArgs false
theorem okM_ev {m : Zak} {s t : Mach} (h : OkM m s) (h1 : t.stack = s.stack) (h2 : t.cells.length = 16) (h3 : t.done = s.done) (h4 : (∀ x ∈ t.inputs, x ∈ s.inputs) ∧ t.inputs.length ≤ s.inputs.length) : OkM m t :=
 ⟨h2, by rw [h1]; exact h.fr, by rw [h1]; exact h.ca, by rw [h1]; exact h.len, by rw [h1, h3]; exact h.pos, fun x hx => h.inp.1 x (h4.1 x hx), Nat.lt_of_le_of_lt h4.2 h.inp.2⟩
theorem okM_ins {m : Zak} {s : Mach} (hr : Za6 m = true) (h : OkM m s) (hp : 0 < s.stack.length) (he : endB m (topF s) = false) : OkM m (insM m s (topF s) (Zba m (topF s))) := by
 have hF := h.fr _ (Zdd hp)
 have hN := okF_next hF he
 have hI := (okF_ins hr hF he).2
 unfold insM
 split
 ·rename_i h11
  have hA : Zdq m (Zbd m (topF s)) (Zba m (topF s)).f (Zba m (topF s)).args = true := by
   rcases hI with h | h | h | h | h | h | h
   ·omega
   ·omega
   ·omega
   ·omega
   ·exact h.2.2.2.2.2
   ·omega
   ·omega
  have := Zeu hA
  exact okM_called hr h this.1.1 this.1.2 hp ⟨fun e => by (rw [he] at e; cases e), fun _ => h11⟩
 split
 ·split
  ·rename_i hok
   refine Zd5 h ?_ hp
   unfold reckR
   rw [if_pos (by unfold reckR at hok; split at hok; assumption; cases hok)]
   exact okF_next (okF_W hF _ _) he
  ·exact okM_end h (by decide)
 split
 ·split
  ·exact okM_end h (by decide)
  ·exact Zd5 h (okF_next (okF_W hF _ _) he) hp
 split
 ·split
  ·exact okM_end h (by decide)
  ·exact Zd5 (okM_ev (t := { s with cells := s.cells.set (cellN (topF s) (Zba m (topF s))) ((topF s).regs.getD (Zba m (topF s)).b.toNat 0) }) h rfl (by simp; exact h.cells) rfl ⟨fun x hx => hx, Nat.le_refl _⟩) hN hp
 split
 ·exact Zd5 (okM_ev (t := { s with events := s.events ++ [(topF s).regs.getD (Zba m (topF s)).a.toNat 0] }) h rfl h.cells rfl ⟨fun x hx => hx, Nat.le_refl _⟩) hN hp
 split
 ·split
  ·exact okM_end h (by decide)
  ·exact Zd5 (okM_ev (t := { s with inputs := s.inputs.drop 1, events := s.events ++ [s.inputs.getD 0 0 + 65536] }) h rfl h.cells rfl ⟨fun x hx => List.mem_of_mem_drop hx, by simp⟩) (okF_next (okF_W hF _ _) he) hp
 ·exact Zd5 h hN hp
theorem okF_goF {m : Zak} {f : Za5} (hr : Za6 m = true) (h : OkF m f) (h1 : (Za4 m f).fin.kind ≠ 1) (h4 : (Za4 m f).fin.kind ≠ 4) (h5 : (Za4 m f).fin.kind ≠ 5) (h6 : (Za4 m f).fin.kind ≠ 6) : OkF m (goF (Za4 m f) f) := by
 have hE := (Zfi hr h).2
 have hg : (goalB (Zbd m f) (Za4 m f).fin.to = true) ∧ ((Za4 m f).fin.kind = 3 → goalB (Zbd m f) (Za4 m f).fin.els = true) := by
  rcases hE with h | h | h | h | h
  ·omega
  ·exact ⟨h.2.2.2.2.2.2.1, fun e => by omega⟩
  ·exact ⟨h.2.2.2.2.2.2.1, fun _ => h.2.2.2.2.2.2.2⟩
  ·omega
  ·omega
 unfold goF
 split
 ·rename_i h3; have := goal_inM (hg.2 h3.1); exact okF_to h this.1 this.2
 ·have := goal_inM hg.1; exact okF_to h this.1 this.2
theorem okM_step {m : Zak} {s : Mach} (hr : Za6 m = true) (h : OkM m s) : OkM m (Zb0 m s) := by
 unfold Zb0
 split
 ·rename_i hd
  have hp := h.pos hd
  have hF := h.fr _ (Zdd hp)
  unfold Zdf
  split
  ·rename_i he; exact okM_ins hr h hp he
  rename_i he
  split
  ·exact okM_answered hr h hp
  split
  ·rename_i h1 h4
   have hE := (Zfi hr hF).2
   have hA : Zdq m (Zbd m (topF s)) (Za4 m (topF s)).fin.f (Za4 m (topF s)).fin.args = true := by
    rcases hE with h | h | h | h | h
    ·omega
    ·omega
    ·omega
    ·exact h.2.2.2.1
    ·omega
   have := Zeu hA
   exact okM_called hr h this.1.1 this.1.2 hp ⟨fun _ => h4, fun e => absurd e he⟩
  split
  ·exact okM_thrown hr h hp
  split
  ·exact okM_thrown hr h hp
  ·rename_i h1 h4 h5 h6
   exact Zd5 h (okF_goF hr hF h1 h4 h5 h6) hp
 ·exact h
theorem right0 {m : Zak} (hr : Za6 m = true) : 0 < m.funcs.length ∧ (m.funcs.getD 0 default).params = 0 := by
 unfold Za6 at hr; rw [Bool.and_eq_true, decide_eq_true_eq] at hr; exact ⟨hr.1.1, hr.1.2.2⟩
theorem okM_new {m : Zak} {inputs : List Int} (hr : Za6 m = true) (hi : (∀ x ∈ inputs, 0 ≤ x ∧ x ≤ 65535) ∧ inputs.length < 1000000) : OkM m (newM m inputs) := by
 refine ⟨rfl, fun f hf => ?_, fun f hf => ?_, by show 1 ≤ 32; omega, fun _ => by show 0 < 1; omega, hi⟩
 ·rw [List.mem_singleton.1 hf]; exact okF_new hr (by omega) (by have := (right0 hr).1; omega)
 ·cases hf
theorem okM_run {m : Zak} {inputs : List Int} (hr : Za6 m = true) (hi : (∀ x ∈ inputs, 0 ≤ x ∧ x ≤ 65535) ∧ inputs.length < 1000000) : ∀ k, OkM m (runM m inputs k)
 | 0 => okM_new hr hi
 | k + 1 => okM_step hr (okM_run hr hi k)
theorem ev_called {m : Zak} {s : Mach} {n : Int} {l : List Int} : (Zb1 m s n l).events = s.events := by unfold Zb1; split <;> rfl
theorem ev_answered {m : Zak} {s : Mach} {w : Int} : (Zbp m s w).events = s.events := by unfold Zbp; split <;> rfl
theorem ev_thrown {m : Zak} {s : Mach} {w : Int} : (Zbt m s w).events = s.events := by unfold Zbt; dsimp only; split <;> rfl
theorem ev_ins {m : Zak} {s : Mach} {f : Za5} {x : Ins} : (insM m s f x).events = s.events ∨ ∃ e, (insM m s f x).events = s.events ++ [e] := by
 unfold insM
 split
 ·exact .inl ev_called
 split
 ·split <;> exact .inl rfl
 split
 ·split <;> exact .inl rfl
 split
 ·split <;> exact .inl rfl
 split
 ·exact .inr ⟨_, rfl⟩
 split
 ·split
  ·exact .inl rfl
  ·exact .inr ⟨_, rfl⟩
 ·exact .inl rfl
theorem ev_step {m : Zak} {s : Mach} : (Zb0 m s).events = s.events ∨ ∃ e, (Zb0 m s).events = s.events ++ [e] := by
 unfold Zb0
 split
 ·unfold Zdf
  split
  ·exact ev_ins
  split
  ·exact .inl ev_answered
  split
  ·exact .inl ev_called
  split
  ·exact .inl ev_thrown
  split
  ·exact .inl ev_thrown
  ·exact .inl rfl
 ·exact .inl rfl
theorem ev_run {m : Zak} {inputs : List Int} : ∀ k, (runM m inputs k).events.length ≤ k
 | 0 => Nat.le_refl _
 | k + 1 => by
   have h1 := ev_run (m := m) (inputs := inputs) k
   show (Zb0 m (runM m inputs k)).events.length ≤ k + 1
   rcases ev_step (m := m) (s := runM m inputs k) with h | ⟨e, h⟩
   ·rw [h]; omega
   ·rw [h, List.length_append]; simp; exact h1
theorem right_regs {m : Zak} (hr : Za6 m = true) {n : Int} (h0 : 0 ≤ n) (h1 : n < m.funcs.length) : (m.funcs.getD n.toNat default).regs ≤ 256 := (okF_funP (Zc9 hr (show n.toNat < m.funcs.length by omega))).2.2.2.1
theorem c_calledOk {m : Zak} {s : Mach} (hr : Za6 m = true) (h : OkM m s) (hp : 0 < s.stack.length) {n : Int} {l : List Int} (hA : Zdq m (Zbd m (topF s)) n l = true) :
  FC Tryz.prog 108 [.agg (Zao m), .agg (Zar s), iv n, ints l] (.agg (Zar (Zb1 m s n l))) := by
 have := Zeu hA
 exact c_rcalled m s n l hp this.1.1 this.1.2 this.2.1 (right_regs hr this.1.1 this.1.2) (fun p hp' => by rw [(h.fr _ (Zdd hp)).regs]; exact this.2.2 p hp')
theorem c_insOk {m : Zak} {s : Mach} (hr : Za6 m = true) (h : OkM m s) (hp : 0 < s.stack.length) (hev : s.events.length < 1000000) (he : endB m (topF s) = false) : FCins m s (topF s) (Zba m (topF s)) := by
 have hF := h.fr _ (Zdd hp)
 have hI := (okF_ins hr hF he).2
 have h64 := (Zfi hr hF).1
 have a0 := hF.a0
 have a1 := hF.a1
 have hR := hF.regs
 rcases hI with h1 | h1 | h1 | h1 | h1 | h1 | h1
 ·have hd := (Zab _ _).1 h1.2.1
  exact c_ins8 m s _ _ hp (by omega) (c_Reckon _ _ a0 (by omega) (by omega) (by omega) (by rw [hR]; exact hd) (fun h => by omega) (fun h => by omega))
 ·have hd := (Zab _ _).1 h1.2.1
  have ha := (Zab _ _).1 h1.2.2.1
  rcases h1.1 with ho | ho
  ·exact c_ins8 m s _ _ hp (by omega) (c_Reckon _ _ a0 (by omega) (by omega) (by omega) (by rw [hR]; exact hd) (fun h => by rw [hR]; exact ha) (fun h => by omega))
  ·exact c_ins9 m s _ _ hp ho (by rw [hR]; exact hd) (by rw [hR]; exact ha) a0 (by omega)
 ·have hd := (Zab _ _).1 h1.2.1
  have ha := (Zab _ _).1 h1.2.2.1
  have hb := (Zab _ _).1 h1.2.2.2.1
  exact c_ins8 m s _ _ hp (by omega) (c_Reckon _ _ a0 (by omega) (by omega) (by omega) (by rw [hR]; exact hd) (fun h => by rw [hR]; exact ha) (fun h => by rw [hR]; exact hb))
 ·have ha := (Zab _ _).1 h1.2.2.1
  have hb := (Zab _ _).1 h1.2.2.2.1
  exact c_ins10 m s _ _ hp h1.1 (by rw [hR]; exact hb) h.cells (by rw [hR]; exact ha) a0 (by omega)
 ·exact c_ins11 m s _ _ h1.1 (c_calledOk hr h hp h1.2.2.2.2.2)
 ·have ha := (Zab _ _).1 h1.2.2.1
  exact c_ins12 m s _ _ hp h1.1 (by rw [hR]; exact ha) a0 (by omega) hev
 ·have hd := (Zab _ _).1 h1.2.1
  exact c_ins13 m s _ _ hp h1.1 (by rw [hR]; exact hd) a0 (by omega) hev (fun i hi => h.inp.1 _ (Zbu _ hi)) h.inp.2
theorem c_StepOk {m : Zak} {s : Mach} (hr : Za6 m = true) (h : OkM m s) (hev : s.events.length < 1000000) : FC Tryz.prog 62 [.agg (Zao m), .agg (Zar s)] (.agg (Zar (Zb0 m s))) := by
 refine c_Step m s _ _ rfl rfl h.pos (by have := h.len; omega) (fun hd => h.fr _ (Zdd (h.pos hd))) ?_ ?_ ?_ ?_ ?_
 ·intro hd he hk
  have hF := h.fr _ (Zdd (h.pos hd))
  have hE := (Zfi hr hF).2
  rw [hF.regs]
  rcases hE with h | h | h | h | h
  ·exact (Zab _ _).1 h.2.1
  ·omega
  ·exact (Zab _ _).1 h.2.1
  ·omega
  ·omega
 ·intro hd he
  exact c_insOk hr h (h.pos hd) hev he
 ·intro hd he hk w
  have hp := h.pos hd
  refine c_answered m s w hp (fun h2 => (Zfg h h2).1) (fun h2 => ?_) (fun h2 he => ?_) (fun h2 he => ?_)
  ·have hF := (Zfg h h2).1
   have := (Zfi hr hF).1
   have := hF.a1
   omega
  ·exact ((callF_dst hr (Zfg h h2).1 (Zfg h h2).2).1 he).1
  ·exact (callF_dst hr (Zfg h h2).1 (Zfg h h2).2).2 he
 ·intro hd he hk
  have hF := h.fr _ (Zdd (h.pos hd))
  have hE := (Zfi hr hF).2
  refine c_calledOk hr h (h.pos hd) ?_
  rcases hE with h | h | h | h | h
  ·omega
  ·omega
  ·omega
  ·exact h.2.2.2.1
  ·omega
 ·intro hd w
  exact c_thrown m s w hr (h.pos hd) (fun i hi => h.fr _ (Zbu _ hi))
theorem c_RunOk {m : Zak} {inputs : List Int} (hr : Za6 m = true) (hi : (∀ x ∈ inputs, 0 ≤ x ∧ x ≤ 65535) ∧ inputs.length < 1000000) (n : Nat) (hn : n < 1000000) : FC Tryz.prog 23 [.agg (Zao m), u16s inputs, iv n] (.agg (Zar (runM m inputs n))) := by
 have h0 := right0 hr
 refine c_Run m inputs n hn (c_newM m inputs h0.1 h0.2 (right_regs hr (n := 0) (by omega) (by omega))) (fun k hk => ?_)
 exact c_StepOk hr (okM_run hr hi k) (by have := ev_run (m := m) (inputs := inputs) k; omega)
set_option linter.unusedSimpArgs false
def begB (a b : List Int) : Bool := decide (a.length ≤ b.length) && decide (a = b.take a.length)
theorem Zfs (a b : List Int) : FC Tryz.prog 26 [ints a, ints b] (.bool (begB a b)) := by
 refine Zan tok Tryz.func26 rfl (by decide +kernel) (nB rfl) ?_
 have hmx : mL = 4294967296 := rfl
 by_cases hle : a.length ≤ b.length
 ·have hR := c_rInts a (b.take a.length)
  ((repeat' first | refine Zad ?_ | (refine Zaa tok (by rfl) ?_; conv => whnf) | (refine uA ?_ ?_; rotate_left; (conv => whnf); rotate_right)); all_goals (try ((guard_target = Zac _ _ _ _); ((refine Za7 ?_; intro hgd; (conv at hgd => whnf))); (all_goals (try simp only [Zac, kZ, kA, kB, mL, Zab] at *)); all_goals omega)))
  refine .inl ⟨_, _, _, uG (QC.sc (rd := []) hR (.i (.cons (.sl ?_ (fun i hi => ?_)) .nil)) rfl), ?_⟩
  ·simp; omega
  ·have hi2 : i < a.length := by simpa using hi
   show [iv (b.getD (Int.toNat 0 + i) 0)] = [iv ((b.take a.length).getD i 0)]
   rw [show Int.toNat 0 + i = i from Nat.zero_add i, List.getD_eq_getElem?_getD, List.getD_eq_getElem?_getD, List.getElem?_take, if_pos hi2]
  conv => whnf
  (repeat' (refine Zah ?_; conv => whnf))
  refine ⟨_, rfl, Rel.bool ?_⟩
  unfold begB
  rw [decide_eq_true hle, decide_eq_true (show (a.length : Int) ≤ b.length by omega)]
  rfl
 ·have hle2 : ¬ (a.length : Int) ≤ b.length := by omega
  (repeat' ((fail_if_success (show Rg 1)); first | refine Zad ?_ | (refine Zaa tok (by rfl) ?_; conv => whnf)))
  refine AWp_regV tok (fun j => bif Nat.beq j 5 then some false else none) (by rfl) ?_
  conv => whnf
  refine ⟨by rw [decide_eq_false hle2], ?_⟩
  conv => whnf
  (repeat' (refine Zah ?_; conv => whnf))
  refine ⟨_, rfl, Rel.bool ?_⟩
  unfold begB
  rw [decide_eq_false hle]
  rfl
def toldB (s t : Mach) : Bool := decide (s.events = t.events) && (decide (s.done = t.done) && decide (s.value = t.value))
theorem c_Told (s t : Mach) : FC Tryz.prog 25 [.agg (Zar s), .agg (Zar t)] (.bool (toldB s t)) := by
 refine Zan tok Tryz.func25 rfl (by decide +kernel) (nB rfl) ?_
 (repeat' first | refine Zad ?_ | (refine Zaa tok (by rfl) ?_; conv => whnf))
 refine .inl ⟨_, _, _, uG (QC.fc (c_rInts s.events t.events) rfl), ?_⟩
 conv => whnf
 (repeat' (refine Zah ?_; conv => whnf))
 refine ⟨_, rfl, Rel.bool ?_⟩
 unfold toldB
 cases decide (s.events = t.events) <;> cases decide (s.done = t.done) <;> rfl
def smallB (m : Zak) (inputs : List Int) : Bool := shortB m && decide (inputs.length ≤ 30)
theorem c_r6Small (m : Zak) (inputs : List Int) : FC Tryz.prog 13 [.agg (Zao m), u16s inputs] (.bool (smallB m inputs)) := by
 refine Zan tok Tryz.func13 rfl (by decide +kernel) (nB rfl) ?_
 (repeat' first | refine Zad ?_ | (refine Zaa tok (by rfl) ?_; conv => whnf))
 refine .inl ⟨_, _, _, uG (QC.fc (c_Short m) rfl), ?_⟩
 conv => whnf
 (repeat' (refine Zah ?_; conv => whnf))
 refine ⟨_, rfl, Rel.bool ?_⟩
 unfold smallB
 cases shortB m
 ·rfl
 ·simp only [cond_true, Bool.true_and]
  by_cases e : inputs.length ≤ 30
  ·rw [decide_eq_true e, decide_eq_true (by omega)]
  ·rw [decide_eq_false e, decide_eq_false (by omega)]
end Go.Proofs.YtoelbgjpmpoolaaGreat
namespace Go.Proofs.YtoelbgjpmpoolaaGreat
open Go Dv
set_option maxRecDepth 10000
set_option linter.unusedSimpArgs false
structure TellA (s t : Mach) : Prop where
 ev : s.events = t.events
 dn : s.done = t.done
 va : s.value = t.value
theorem run_mono {m : Zak} {inputs : List Int} {i : Nat} : ∀ k, ∃ e, (runM m inputs (i + k)).events = (runM m inputs i).events ++ e
 | 0 => ⟨[], by simp⟩
 | k + 1 => by
   obtain ⟨e, h⟩ := run_mono (m := m) (inputs := inputs) (i := i) k
   show ∃ e, (Zb0 m (runM m inputs (i + k))).events = _
   rcases ev_step (m := m) (s := runM m inputs (i + k)) with h2 | ⟨x, h2⟩
   ·exact ⟨e, by rw [h2, h]⟩
   ·exact ⟨e ++ [x], by rw [h2, h, List.append_assoc]⟩
theorem run_le {m : Zak} {inputs : List Int} {i j : Nat} (h : i ≤ j) : ∃ e, (runM m inputs j).events = (runM m inputs i).events ++ e := by
 have := run_mono (m := m) (inputs := inputs) (i := i) (j - i)
 rwa [show i + (j - i) = j by omega] at this
theorem run_end {m : Zak} {inputs : List Int} {i j : Nat} (h : i ≤ j) (hd : ¬ (runM m inputs i).done = 0) : runM m inputs j = runM m inputs i := by
 have := run_done hd (j - i)
 rwa [show i + (j - i) = j by omega] at this
theorem begB_app (a e : List Int) : begB a (a ++ e) = true := by
 unfold begB
 rw [List.take_left' rfl, decide_eq_true (by simp), decide_eq_true rfl]; rfl
theorem beg_of {a b : List Int} (h : ∃ e, b = a ++ e) : begB a b = true := by obtain ⟨e, rfl⟩ := h; exact begB_app a e
theorem told_of {s t : Mach} (h : TellA s t) : toldB s t = true := by
 unfold toldB; rw [decide_eq_true h.ev, decide_eq_true h.dn, decide_eq_true h.va]; rfl
theorem sim_of {a b : Zak} {inputs : List Int} {k : Nat} {R : Mach → Mach → Prop} (h0 : R (newM a inputs) (newM b inputs))
  (hs : ∀ i j, R (runM a inputs i) (runM b inputs j) → (runM a inputs i).done = 0 → ∃ d, d ≤ k ∧ R (Zb0 a (runM a inputs i)) (runM b inputs (j + d))) : ∀ i, ∃ j, j ≤ i * k ∧ R (runM a inputs i) (runM b inputs j)
 | 0 => ⟨0, by omega, h0⟩
 | i + 1 => by
   obtain ⟨j, hj, hR⟩ := sim_of h0 hs i
   by_cases hd : (runM a inputs i).done = 0
   ·obtain ⟨d, hd1, hd2⟩ := hs i j hR hd
    exact ⟨j + d, by rw [Nat.succ_mul]; omega, hd2⟩
   ·refine ⟨j, by rw [Nat.succ_mul]; omega, ?_⟩
    rw [show runM a inputs (i + 1) = runM a inputs i from if_neg hd]
    exact hR
structure RelL (P : Za5 → Za5 → Prop) (a b : List Za5) : Prop where
 len : a.length = b.length
 at_ : ∀ i, i < a.length → P (a.getD i default) (b.getD i default)
theorem RelL.take {P : Za5 → Za5 → Prop} {a b : List Za5} (h : RelL P a b) (k : Nat) : RelL P (a.take k) (b.take k) := by
 refine ⟨by rw [List.length_take, List.length_take, h.len], fun i hi => ?_⟩
 rw [List.length_take] at hi
 rw [Zbi _ (by omega), Zbi _ (by omega)]
 exact h.at_ i (by omega)
theorem Zcc {l : List Za5} {x : Za5} {i : Nat} : (l ++ [x]).getD i default = if i < l.length then l.getD i default else if i = l.length then x else default := by
 by_cases h1 : i < l.length
 ·rw [if_pos h1]; simp [List.getD_eq_getElem?_getD, List.getElem?_append_left h1]
 ·rw [if_neg h1]
  by_cases h2 : i = l.length
  ·rw [if_pos h2]; subst h2; simp [List.getD_eq_getElem?_getD]
  ·rw [if_neg h2, List.getD_eq_getElem?_getD, List.getElem?_eq_none (by simp; omega)]; rfl
theorem RelL.app {P : Za5 → Za5 → Prop} {a b : List Za5} (h : RelL P a b) {f g : Za5} (hp : P f g) : RelL P (a ++ [f]) (b ++ [g]) := by
 refine ⟨by simp [h.len], fun i hi => ?_⟩
 rw [List.length_append, List.length_singleton] at hi
 rw [Zcc, Zcc, ← h.len]
 by_cases h1 : i < a.length
 ·rw [if_pos h1, if_pos h1]; exact h.at_ i h1
 ·rw [if_neg h1, if_neg h1, if_pos (by omega), if_pos (by omega)]; exact hp
structure RelM (P : Za5 → Za5 → Prop) (s t : Mach) : Prop where
 tell : TellA s t
 cells : s.cells = t.cells
 inp : s.inputs = t.inputs
 st : s.done = 0 → RelL P s.stack t.stack
theorem Zfe {P : Za5 → Za5 → Prop} {s t : Mach} (h : RelM P s t) {how w : Int} (hh : how ≠ 0) : RelM P (endM s how w) (endM t how w) := ⟨⟨h.tell.ev, rfl, rfl⟩, h.cells, h.inp, fun e => absurd e hh⟩
theorem Zdy {P : Za5 → Za5 → Prop} {s t : Mach} (h : RelM P s t) (hd : s.done = 0) {f g : Za5} (hp : P f g) : RelM P (Zbh s f) (Zbh t g) :=
 ⟨⟨h.tell.ev, h.tell.dn, h.tell.va⟩, h.cells, h.inp, fun _ => by
  show RelL P (s.stack.take (s.stack.length - 1) ++ [f]) (t.stack.take (t.stack.length - 1) ++ [g])
  rw [← (h.st hd).len]
  exact ((h.st hd).take _).app hp⟩
theorem relM_top {P : Za5 → Za5 → Prop} {s t : Mach} (h : RelM P s t) (hd : s.done = 0) (hl : 0 < s.stack.length) : P (topF s) (topF t) := by
 unfold topF
 rw [← (h.st hd).len]
 exact (h.st hd).at_ _ (by omega)
theorem relM_take {P : Za5 → Za5 → Prop} {s t : Mach} (h : RelM P s t) (k : Nat) : RelM P (Zep s k) (Zep t k) := ⟨⟨h.tell.ev, h.tell.dn, h.tell.va⟩, h.cells, h.inp, fun hd => (h.st hd).take k⟩
theorem relM_pop {P : Za5 → Za5 → Prop} {s t : Mach} (h : RelM P s t) (hd : s.done = 0) : RelM P (popM s) (popM t) := by
 rw [popM_eq, popM_eq, ← (h.st hd).len]
 exact relM_take h _
theorem relM_ev {P : Za5 → Za5 → Prop} {s t s' t' : Mach} (h : RelM P s t) (h1 : TellA s' t') (h2 : s'.cells = t'.cells) (h3 : s'.inputs = t'.inputs) (hd : s'.done = s.done) (e1 : s'.stack = s.stack) (e2 : t'.stack = t.stack) : RelM P s' t' :=
 ⟨h1, h2, h3, fun e => by rw [e1, e2]; exact h.st (by rw [← hd]; exact e)⟩
theorem relM_called {P : Za5 → Za5 → Prop} {m n : Zak} {s t : Mach} (h : RelM P s t) (hd : s.done = 0) {k : Int} {l l' : List Int} (ha : Zb2 (topF s) l = Zb2 (topF t) l') (hN : P (frN m k (Zb2 (topF s) l)) (frN n k (Zb2 (topF s) l))) :
  RelM P (Zb1 m s k l) (Zb1 n t k l') := by
 unfold Zb1
 rw [← (h.st hd).len]
 split
 ·exact Zfe h (by decide)
 ·rw [← ha]
  exact ⟨⟨h.tell.ev, h.tell.dn, h.tell.va⟩, h.cells, h.inp, fun _ => (h.st hd).app hN⟩
theorem relM_answered {P : Za5 → Za5 → Prop} {m n : Zak} {s t : Mach} (h : RelM P s t) (hd : s.done = 0) (hl : 0 < s.stack.length) {w : Int} (hA : 1 < s.stack.length → P (answF m (topF (popM s)) w) (answF n (topF (popM t)) w)) :
  RelM P (Zbp m s w) (Zbp n t w) := by
 unfold Zbp
 rw [← (h.st hd).len]
 split
 ·exact Zfe (relM_pop h hd) (by decide)
 ·rename_i h1
  exact Zdy (relM_pop h hd) hd (hA (by omega))
theorem downK_congr {p q : Nat → Bool} : ∀ {n : Nat}, (∀ i, i ≤ n → p i = q i) → Ze5 p n = Ze5 q n
 | 0, _ => rfl
 | n + 1, h => by
   show (if p (n + 1) = true then n + 1 else Ze5 p n) = (if q (n + 1) = true then n + 1 else Ze5 q n)
   rw [h (n + 1) (Nat.le_refl _), downK_congr (fun i hi => h i (by omega))]
theorem any_congr {p q : Nat → Bool} {n : Nat} (h : ∀ i, i < n → p i = q i) : (List.range n).any p = (List.range n).any q := by
 rw [Bool.eq_iff_iff, List.any_eq_true, List.any_eq_true]
 constructor
 ·rintro ⟨i, hi, e⟩; exact ⟨i, hi, by rw [← h i (List.mem_range.1 hi)]; exact e⟩
 ·rintro ⟨i, hi, e⟩; exact ⟨i, hi, by rw [h i (List.mem_range.1 hi)]; exact e⟩
theorem relM_thrown {P : Za5 → Za5 → Prop} {m n : Zak} {s t : Mach} (h : RelM P s t) (hd : s.done = 0) {w : Int}
  (hC : ∀ i, i + 1 < s.stack.length → ∀ c, Zes m (s.stack.getD i default) w c = Zes n (t.stack.getD i default) w c)
  (hA : ∀ i, i + 1 < s.stack.length → Zes m (s.stack.getD i default) w true = true → P (landF m (s.stack.getD i default) (Za4 m (s.stack.getD i default)).fin.pad w) (landF n (t.stack.getD i default) (Za4 n (t.stack.getD i default)).fin.pad w)) :
  RelM P (Zbt m s w) (Zbt n t w) := by
 have hp := relM_pop h hd
 have hL := hp.st hd
 have hlen := hL.len
 have hpl := Zcl (s := s)
 have hsl := (h.st hd).len
 have e1 : ∀ i, i < (popM s).stack.length → (popM s).stack.getD i default = s.stack.getD i default := fun i hi => Zbi _ (by omega)
 have e2 : ∀ i, i < (popM s).stack.length → (popM t).stack.getD i default = t.stack.getD i default := fun i hi => Zbi _ (by omega)
 have hC2 : ∀ i, i < (popM s).stack.length → ∀ c, Zck m (popM s).stack w c i = Zck n (popM t).stack w c i := fun i hi c => by
  unfold Zck; rw [e1 i hi, e2 i hi]; exact hC i (by omega) c
 unfold Zbt
 dsimp only
 rw [← hlen, ← any_congr (fun i hi => hC2 i hi false)]
 split
 ·rename_i hany
  rw [List.any_eq_true] at hany
  obtain ⟨i, hi, hic⟩ := hany
  rw [List.mem_range] at hi
  have hK := downK_spec (p := Zck m (popM s).stack w true) (n := (popM s).stack.length - 1) ⟨i, by omega, catch_more hic⟩
  rw [← downK_congr (p := Zck m (popM s).stack w true) (fun i hi => hC2 i (by omega) true)]
  generalize Ze5 (Zck m (popM s).stack w true) ((popM s).stack.length - 1) = K at hK
  have hKl : K < (popM s).stack.length := by omega
  rw [e1 K hKl, e2 K hKl]
  have hk := hK.1
  unfold Zck at hk
  rw [e1 K hKl] at hk
  exact Zdy (relM_take hp (K + 1)) hd (hA K (by omega) hk)
 ·exact Zfe hp (by decide)
end Go.Proofs.YtoelbgjpmpoolaaGreat
namespace Go.Proofs.YtoelbgjpmpoolaaGreat
open Go Dv
set_option maxRecDepth 10000
set_option linter.unusedSimpArgs false
theorem top_pop {s : Mach} (h2 : 1 < s.stack.length) : topF (popM s) = s.stack.getD (s.stack.length - 2) default := by
 unfold topF; rw [Zcl]; show (s.stack.take (s.stack.length - 1)).getD (s.stack.length - 1 - 1) default = _
 rw [Zbi _ (by omega)]; rfl
end Go.Proofs.YtoelbgjpmpoolaaGreat
namespace Go.Proofs.YtoelbgjpmpoolaaGreat
open Go Dv
set_option maxRecDepth 10000
set_option linter.unusedSimpArgs false
section
variable {B : Zbs → Zbs}
theorem map_getD {l : List Zbs} {i : Nat} (h : i < l.length) : (l.map B).getD i default = B (l.getD i default) := by
 rw [List.getD_eq_getElem?_getD, List.getElem?_map, List.getElem?_eq_getElem h, Zbl default h]; rfl
end
set_option linter.unusedVariables false
def opnB (m : Zak) (n : Nat) (l : List Ins) : Bool := decide (¬ 256 < (bigF m n).regs ∧ ¬ 64 < (outX m n l).length)
def blkY (m : Zak) (n : Nat) (l : List Ins) (x : Ins) : List Ins := bif opnB m n l then blkX m n x else [x]
def outY (m : Zak) (n : Nat) (l : List Ins) (k : Nat) : List Ins := (l.take k).flatMap (blkY m n l)
theorem flat_one : ∀ l : List Ins, l.flatMap (fun x => [x]) = l
 | [] => rfl
 | x :: r => by rw [List.flatMap_cons, flat_one r]; rfl
theorem ninl_at {m : Zak} (hr : Za6 m = true) {n : Nat} (hn : n < m.funcs.length) : (Zat m).funcs.getD n default = funN m n := by
 unfold Zat; rw [if_pos hr]; exact range_getD _ _ hn
theorem ninl_len {m : Zak} : (Zat m).funcs.length = m.funcs.length := by unfold Zat; split <;> simp
theorem funN_one {m : Zak} {n k : Nat} (hk : k < (m.funcs.getD n default).blocks.length) :
  (funN m n).blocks.getD k default = { (m.funcs.getD n default).blocks.getD k default with ins := ((m.funcs.getD n default).blocks.getD k default).ins.flatMap (blkY m n ((m.funcs.getD n default).blocks.getD k default).ins) } := by
 have hb : (bigF m n).blocks.getD k default = blkI m n ((m.funcs.getD n default).blocks.getD k default) := map_getD (B := blkI m n) hk
 generalize hl : (m.funcs.getD n default).blocks.getD k default = b at *
 unfold funN
 split
 ·rename_i h
  rw [hl]
  have : opnB m n b.ins = false := decide_eq_false (fun e => e.1 h)
  have e : blkY m n b.ins = fun x => [x] := by funext x; unfold blkY; rw [this]; rfl
  rw [e, flat_one]
 ·rename_i h
  rw [hb]
  unfold blkI Zca
  by_cases h2 : 64 < (outX m n b.ins).length
  ·have : opnB m n b.ins = false := decide_eq_false (fun e => e.2 h2)
   have e : blkY m n b.ins = fun x => [x] := by funext x; unfold blkY; rw [this]; rfl
   rw [if_pos h2, e, flat_one]
  ·have : opnB m n b.ins = true := decide_eq_true ⟨h, h2⟩
   have e : blkY m n b.ins = blkX m n := by funext x; unfold blkY; rw [this]; rfl
   rw [if_neg h2, e]; rfl
theorem Zfo {m : Zak} {n : Nat} : (funN m n).blocks.length = (m.funcs.getD n default).blocks.length := by
 unfold funN; split
 ·rfl
 ·simp [bigF]
theorem funN_par {m : Zak} {n : Nat} : (funN m n).params = (m.funcs.getD n default).params := by unfold funN; split <;> rfl
theorem funN_regs {m : Zak} {n : Nat} : (m.funcs.getD n default).regs ≤ (funN m n).regs ∧ ((m.funcs.getD n default).regs ≤ 256 → (funN m n).regs ≤ 256) := by
 have := mostL_le m n (m.funcs.getD n default).blocks
 unfold funN
 split
 ·exact ⟨Int.le_refl _, fun h => h⟩
 ·rename_i h
  refine ⟨?_, fun _ => by omega⟩
  show _ ≤ (m.funcs.getD n default).regs + mostL m n _
  omega
theorem more_ge {m : Zak} {n : Nat} : ∀ (l : List Ins) (a : Int) {x : Ins}, x ∈ l → inlX m n x = true → (m.funcs.getD x.f.toNat default).regs ≤ l.foldl (mrX m n) a
  | y :: r, a, x, h, hi => by
      have mono : ∀ (l : List Ins) (a : Int), a ≤ l.foldl (mrX m n) a := by
        intro l
        induction l with
        | nil => exact fun a => Int.le_refl a
        | cons z r ih => intro a; have := ih (mrX m n a z); have h2 : a ≤ mrX m n a z := by unfold mrX; split <;> omega
                         exact Int.le_trans h2 this
      rcases List.mem_cons.1 h with e | e
      · subst e
        have : (m.funcs.getD x.f.toNat default).regs ≤ mrX m n a x := by unfold mrX; rw [if_pos hi]; omega
        exact Int.le_trans this (mono r _)
      · exact more_ge r _ e hi
theorem most_ge {m : Zak} {n : Nat} : ∀ (l : List Zbs) (a : Int) {b : Zbs}, b ∈ l → (Zca m n b.ins).2 ≤ l.foldl (fun a b => max a (Zca m n b.ins).2) a
 | y :: r, a, b, h => by
   have mono : ∀ (l : List Zbs) (a : Int), a ≤ l.foldl (fun a b => max a (Zca m n b.ins).2) a := by
    intro l
    induction l with
    | nil => exact fun a => Int.le_refl a
    | cons z r ih => intro a; exact Int.le_trans (by omega) (ih (max a (Zca m n z.ins).2))
   rcases List.mem_cons.1 h with e | e
   ·subst e
    exact Int.le_trans (show (Zca m n b.ins).2 ≤ max a (Zca m n b.ins).2 by omega) (mono r _)
   ·exact most_ge r _ e
theorem base_room {m : Zak} {n k : Nat} (hk : k < (m.funcs.getD n default).blocks.length) (ho : opnB m n ((m.funcs.getD n default).blocks.getD k default).ins = true) {x : Ins} (hx : x ∈ ((m.funcs.getD n default).blocks.getD k default).ins) (hi : inlX m n x = true) :
  (m.funcs.getD n default).regs + (m.funcs.getD x.f.toNat default).regs ≤ (funN m n).regs ∧ (funN m n).regs ≤ 256 := by
 unfold opnB at ho
 rw [decide_eq_true_eq] at ho
 have h1 := more_ge _ 0 hx hi
 have h2 := most_ge (m := m) (n := n) _ 0 (Zbu default hk)
 have h3 : (Zca m n ((m.funcs.getD n default).blocks.getD k default).ins).2 = moreX m n ((m.funcs.getD n default).blocks.getD k default).ins := by unfold Zca; rw [if_neg ho.2]
 rw [h3] at h2
 unfold funN
 rw [if_neg ho.1]
 refine ⟨?_, by have := ho.1; omega⟩
 show _ ≤ (m.funcs.getD n default).regs + mostL m n (m.funcs.getD n default).blocks
 unfold moreX at h2
 unfold mostL
 omega
theorem inlX_of {m : Zak} {n : Nat} {x : Ins} (h : inlX m n x = true) : x.op = 11 ∧ x.f ≠ n ∧ smallF (m.funcs.getD x.f.toNat default) = true := by
 unfold inlX at h
 rw [Bool.and_eq_true, decide_eq_true_eq] at h
 exact ⟨h.1.1, h.1.2, h.2⟩
theorem blkY_of {m : Zak} {n : Nat} {l : List Ins} {x : Ins} : (blkY m n l x = [x]) ∨ (opnB m n l = true ∧ inlX m n x = true ∧ blkY m n l x = Ze0 x (m.funcs.getD x.f.toNat default) (m.funcs.getD n default).regs) := by
 unfold blkY
 cases h : opnB m n l with
 | false => exact .inl rfl
 | true =>
  rw [cond_true]
  unfold blkX
  cases h2 : inlX m n x with
  | false => exact .inl (if_neg (by simp))
  | true => exact .inr ⟨rfl, rfl, if_pos rfl⟩
theorem Zcb {a r r' : Int} (h : inn a r = true) (hle : r ≤ r') : inn a r' = true := by
 rw [Zab] at h ⊢; omega
theorem args_inl {m : Zak} (hr : Za6 m = true) {f f' : Func} (hle : f.regs ≤ f'.regs) {n : Int} {l : List Int} (h : Zdq m f n l = true) : Zdq (Zat m) f' n l = true := by
 obtain ⟨⟨h0, h1⟩, h2, h3⟩ := Zeu h
 unfold Zdq
 rw [ninl_len, show inn n m.funcs.length = true from (Zab _ _).2 ⟨h0, h1⟩, cond_true, ninl_at hr (by omega), funN_par, decide_eq_true h2, cond_true, List.all_eq_true]
 exact fun p hp => (Zab _ _).2 (by have := h3 p hp; omega)
theorem ins_inl {m : Zak} (hr : Za6 m = true) {f f' : Func} (hle : f.regs ≤ f'.regs) {x : Ins} (h : InsP m f x) : InsP (Zat m) f' x := by
 rcases h with h | h | h | h | h | h | h
 ·exact .inl ⟨h.1, Zcb h.2.1 hle, h.2.2⟩
 ·exact .inr (.inl ⟨h.1, Zcb h.2.1 hle, Zcb h.2.2.1 hle, h.2.2.2⟩)
 ·exact .inr (.inr (.inl ⟨h.1, Zcb h.2.1 hle, Zcb h.2.2.1 hle, Zcb h.2.2.2.1 hle, h.2.2.2.2⟩))
 ·exact .inr (.inr (.inr (.inl ⟨h.1, h.2.1, Zcb h.2.2.1 hle, Zcb h.2.2.2.1 hle, h.2.2.2.2⟩)))
 ·exact .inr (.inr (.inr (.inr (.inl ⟨h.1, Zcb h.2.1 hle, h.2.2.1, h.2.2.2.1, h.2.2.2.2.1, args_inl hr hle h.2.2.2.2.2⟩))))
 ·exact .inr (.inr (.inr (.inr (.inr (.inl ⟨h.1, h.2.1, Zcb h.2.2.1 hle, h.2.2.2⟩)))))
 ·exact .inr (.inr (.inr (.inr (.inr (.inr ⟨h.1, Zcb h.2.1 hle, h.2.2⟩)))))
theorem wi_add {a b : Int} (h1 : 0 ≤ a) (h2 : a ≤ 1000) (h3 : 0 ≤ b) (h4 : b ≤ 1000) : wi (a + b) = a + b := Zal (by omega) (by omega)
theorem mv_ins {m M : Zak} {c f' : Func} {B : Int} (h0 : 0 ≤ B) (hB : B + c.regs ≤ f'.regs) (h256 : f'.regs ≤ 256) {y : Ins} (hy : InsP m c y) (h11 : y.op ≠ 11) : InsP M f' (mv1 y B) := by
 have sh : ∀ {a : Int}, inn a c.regs = true → inn (wi (a + B)) f'.regs = true := fun {a} h => by
  rw [Zab] at h ⊢
  rw [wi_add h.1 (by omega) h0 (by omega)]; omega
 rcases hy with h | h | h | h | h | h | h
 ·refine .inl ⟨h.1, ?_, ?_, ?_, h.2.2.2.2.1, h.2.2.2.2.2⟩
  ·show inn (if y.op ≠ 10 ∧ y.op ≠ 12 then wi (y.dst + B) else y.dst) _ = true
   rw [if_pos (by omega)]; exact sh h.2.1
  ·show (if y.op ≠ 1 ∧ y.op ≠ 13 then wi (y.a + B) else y.a) = 0
   rw [if_neg (by omega)]; exact h.2.2.1
  ·show (if y.op ≠ 1 ∧ y.op ≠ 13 ∧ y.op ≠ 2 ∧ y.op ≠ 9 ∧ y.op ≠ 12 then wi (y.b + B) else y.b) = 0
   rw [if_neg (by omega)]; exact h.2.2.2.1
 ·refine .inr (.inl ⟨h.1, ?_, ?_, ?_, h.2.2.2.2.1, h.2.2.2.2.2⟩)
  ·show inn (if y.op ≠ 10 ∧ y.op ≠ 12 then wi (y.dst + B) else y.dst) _ = true
   rw [if_pos (by omega)]; exact sh h.2.1
  ·show inn (if y.op ≠ 1 ∧ y.op ≠ 13 then wi (y.a + B) else y.a) _ = true
   rw [if_pos (by omega)]; exact sh h.2.2.1
  ·show (if y.op ≠ 1 ∧ y.op ≠ 13 ∧ y.op ≠ 2 ∧ y.op ≠ 9 ∧ y.op ≠ 12 then wi (y.b + B) else y.b) = 0
   rw [if_neg (by omega)]; exact h.2.2.2.1
 ·refine .inr (.inr (.inl ⟨h.1, ?_, ?_, ?_, h.2.2.2.2.1, h.2.2.2.2.2⟩))
  ·show inn (if y.op ≠ 10 ∧ y.op ≠ 12 then wi (y.dst + B) else y.dst) _ = true
   rw [if_pos (by omega)]; exact sh h.2.1
  ·show inn (if y.op ≠ 1 ∧ y.op ≠ 13 then wi (y.a + B) else y.a) _ = true
   rw [if_pos (by omega)]; exact sh h.2.2.1
  ·show inn (if y.op ≠ 1 ∧ y.op ≠ 13 ∧ y.op ≠ 2 ∧ y.op ≠ 9 ∧ y.op ≠ 12 then wi (y.b + B) else y.b) _ = true
   rw [if_pos (by omega)]; exact sh h.2.2.2.1
 ·refine .inr (.inr (.inr (.inl ⟨h.1, ?_, ?_, ?_, h.2.2.2.2.1, h.2.2.2.2.2⟩)))
  ·show (if y.op ≠ 10 ∧ y.op ≠ 12 then wi (y.dst + B) else y.dst) = 0
   rw [if_neg (by omega)]; exact h.2.1
  ·show inn (if y.op ≠ 1 ∧ y.op ≠ 13 then wi (y.a + B) else y.a) _ = true
   rw [if_pos (by omega)]; exact sh h.2.2.1
  ·show inn (if y.op ≠ 1 ∧ y.op ≠ 13 ∧ y.op ≠ 2 ∧ y.op ≠ 9 ∧ y.op ≠ 12 then wi (y.b + B) else y.b) _ = true
   rw [if_pos (by omega)]; exact sh h.2.2.2.1
 ·exact absurd h.1 h11
 ·refine .inr (.inr (.inr (.inr (.inr (.inl ⟨h.1, ?_, ?_, ?_, h.2.2.2.2.1, h.2.2.2.2.2⟩)))))
  ·show (if y.op ≠ 10 ∧ y.op ≠ 12 then wi (y.dst + B) else y.dst) = 0
   rw [if_neg (by omega)]; exact h.2.1
  ·show inn (if y.op ≠ 1 ∧ y.op ≠ 13 then wi (y.a + B) else y.a) _ = true
   rw [if_pos (by omega)]; exact sh h.2.2.1
  ·show (if y.op ≠ 1 ∧ y.op ≠ 13 ∧ y.op ≠ 2 ∧ y.op ≠ 9 ∧ y.op ≠ 12 then wi (y.b + B) else y.b) = 0
   rw [if_neg (by omega)]; exact h.2.2.2.1
 ·refine .inr (.inr (.inr (.inr (.inr (.inr ⟨h.1, ?_, ?_, ?_, h.2.2.2.2.1, h.2.2.2.2.2⟩)))))
  ·show inn (if y.op ≠ 10 ∧ y.op ≠ 12 then wi (y.dst + B) else y.dst) _ = true
   rw [if_pos (by omega)]; exact sh h.2.1
  ·show (if y.op ≠ 1 ∧ y.op ≠ 13 then wi (y.a + B) else y.a) = 0
   rw [if_neg (by omega)]; exact h.2.2.1
  ·show (if y.op ≠ 1 ∧ y.op ≠ 13 ∧ y.op ≠ 2 ∧ y.op ≠ 9 ∧ y.op ≠ 12 then wi (y.b + B) else y.b) = 0
   rw [if_neg (by omega)]; exact h.2.2.2.1
theorem small_end {m : Zak} (hr : Za6 m = true) {k : Nat} (hk : k < m.funcs.length) (hs : smallF (m.funcs.getD k default) = true) : 0 < (m.funcs.getD k default).blocks.length ∧ (∀ y ∈ ((m.funcs.getD k default).blocks.getD 0 default).ins, InsP m (m.funcs.getD k default) y ∧ y.op ≠ 11) ∧ 0 ≤ ((m.funcs.getD k default).blocks.getD 0 default).fin.a ∧ ((m.funcs.getD k default).blocks.getD 0 default).fin.a < (m.funcs.getD k default).regs := by
 obtain ⟨h1, _, _, h4, h5⟩ := Zdx hs
 have hB := Zel (Zc9 hr hk) (i := 0) (by omega)
 unfold blkB at hB
 rw [Bool.and_eq_true, decide_eq_true_eq, List.all_eq_true] at hB
 refine ⟨by omega, fun y hy => ⟨by simpa using hB.2 y hy, ?_⟩, ?_⟩
 ·obtain ⟨i, hi, rfl⟩ := List.getElem_of_mem hy
  have := h5 i hi
  rwa [Zbl default hi] at this
 ·have hE := hB.1.2.2
  rcases hE with h | h | h | h | h
  ·exact (Zab _ _).1 h.2.1
  ·omega
  ·omega
  ·omega
  ·omega
theorem right_inline {m : Zak} (hr : Za6 m = true) : Za6 (Zat m) = true := by
 have hr' := hr
 unfold Za6 at hr ⊢
 rw [Bool.and_eq_true, decide_eq_true_eq] at hr ⊢
 obtain ⟨⟨h1, h2, h3⟩, h4⟩ := hr
 refine ⟨⟨by rw [ninl_len]; exact h1, by rw [ninl_len]; exact h2, by rw [ninl_at hr' (by omega), funN_par]; exact h3⟩, ?_⟩
 rw [List.all_eq_true]
 intro F hF
 obtain ⟨n, hn, rfl⟩ := List.getElem_of_mem hF
 rw [ninl_len] at hn
 rw [← Zbl default, ninl_at hr' hn]
 have hFn := Zc9 hr' hn
 have hP := okF_funP hFn
 have hR := funN_regs (m := m) (n := n)
 have hle := hR.1
 unfold Zem
 rw [Bool.and_eq_true, decide_eq_true_eq, List.all_eq_true]
 have hland : ∀ i, ((funN m n).blocks.getD i default).landing = ((m.funcs.getD n default).blocks.getD i default).landing := fun i => by
  by_cases hi : i < (m.funcs.getD n default).blocks.length
  ·rw [funN_one hi]
  ·rw [List.getD_eq_getElem?_getD, List.getElem?_eq_none (by rw [Zfo]; omega), List.getD_eq_getElem?_getD, List.getElem?_eq_none (by omega)]
 have hgoal : ∀ k, goalB (funN m n) k = goalB (m.funcs.getD n default) k := fun k => by unfold goalB; rw [Zfo, hland]
 refine ⟨⟨by rw [funN_par]; exact hP.1, by rw [funN_par]; exact hP.2.1, by rw [funN_par]; have := hP.2.2.1; omega, hR.2 hP.2.2.2.1, by rw [Zfo]; exact hP.2.2.2.2.1, by rw [Zfo]; exact hP.2.2.2.2.2.1, by rw [hland]; exact hP.2.2.2.2.2.2⟩, fun b hb => ?_⟩
 obtain ⟨k, hk, rfl⟩ := List.getElem_of_mem hb
 have hk' : k < (m.funcs.getD n default).blocks.length := by rw [← Zfo]; exact hk
 rw [← Zbl default hk, funN_one hk']
 have hbk := Zel hFn hk'
 have hroom := fun ho x hx hi => base_room (m := m) (n := n) hk' ho (x := x) hx hi
 have hlen64 : (((m.funcs.getD n default).blocks.getD k default).ins.flatMap (blkY m n ((m.funcs.getD n default).blocks.getD k default).ins)).length ≤ 64 := by
  cases ho : opnB m n ((m.funcs.getD n default).blocks.getD k default).ins with
  | true =>
   have e : blkY m n ((m.funcs.getD n default).blocks.getD k default).ins = blkX m n := by funext x; unfold blkY; rw [ho]; rfl
   rw [e]
   unfold opnB at ho
   rw [decide_eq_true_eq] at ho
   have := ho.2
   unfold outX at this; omega
  | false =>
   have e : blkY m n ((m.funcs.getD n default).blocks.getD k default).ins = fun x => [x] := by funext x; unfold blkY; rw [ho]; rfl
   rw [e, flat_one]
   unfold blkB at hbk
   rw [Bool.and_eq_true, decide_eq_true_eq] at hbk
   exact hbk.1.1
 generalize (m.funcs.getD n default).blocks.getD k default = b at hbk hroom hlen64
 unfold blkB at hbk ⊢
 rw [Bool.and_eq_true, decide_eq_true_eq, List.all_eq_true] at hbk ⊢
 obtain ⟨⟨_, hPad, hEnd⟩, hIns⟩ := hbk
 refine ⟨⟨hlen64, ?_, ?_⟩, fun z hz => ?_⟩
 ·rcases hPad with h | h
  ·exact .inl h
  ·exact .inr ⟨h.1, h.2.1, h.2.2.1, Zcb h.2.2.2.1 hle, h.2.2.2.2⟩
 ·rcases hEnd with h | h | h | h | h
  ·exact .inl ⟨h.1, Zcb h.2.1 hle, h.2.2⟩
  ·exact .inr (.inl ⟨h.1, h.2.1, h.2.2.1, h.2.2.2.1, h.2.2.2.2.1, h.2.2.2.2.2.1, by rw [hgoal]; exact h.2.2.2.2.2.2.1, h.2.2.2.2.2.2.2⟩)
  ·exact .inr (.inr (.inl ⟨h.1, Zcb h.2.1 hle, h.2.2.1, h.2.2.2.1, h.2.2.2.2.1, h.2.2.2.2.2.1, by rw [hgoal]; exact h.2.2.2.2.2.2.1, by rw [hgoal]; exact h.2.2.2.2.2.2.2⟩))
  ·exact .inr (.inr (.inr (.inl ⟨h.1, h.2.1, Zcb h.2.2.1 hle, args_inl hr' hle h.2.2.2.1, by rw [hgoal]; exact h.2.2.2.2.1, h.2.2.2.2.2.1, by rw [Zfo]; exact h.2.2.2.2.2.2.1, by rw [hland]; exact h.2.2.2.2.2.2.2⟩)))
  ·exact .inr (.inr (.inr (.inr h)))
 ·rw [decide_eq_true_eq]
  obtain ⟨x, hx, hzx⟩ := List.mem_flatMap.1 hz
  have hxP : InsP m (m.funcs.getD n default) x := by simpa using hIns x hx
  rcases blkY_of (m := m) (n := n) (l := b.ins) (x := x) with e | ⟨ho, hi, e⟩
  ·rw [e, List.mem_singleton] at hzx
   rw [hzx]; exact ins_inl hr' hle hxP
  ·rw [e] at hzx
   obtain ⟨h11, hxf, hs⟩ := inlX_of hi
   have hrm := hroom ho x hx hi
   have hA : Zdq m (m.funcs.getD n default) x.f x.args = true ∧ inn x.dst (m.funcs.getD n default).regs = true := by
    rcases hxP with h | h | h | h | h | h | h <;> first | omega | exact ⟨h.2.2.2.2.2, h.2.1⟩
   obtain ⟨⟨hf0, hf1⟩, hpl, hargs⟩ := Zeu hA.1
   have hsm := small_end hr' (k := x.f.toNat) (by omega) hs
   have hR0 : 0 ≤ (m.funcs.getD n default).regs := by have := hP.1; have := hP.2.2.1; omega
   have hRc := okF_funP (Zc9 hr' (show x.f.toNat < m.funcs.length by omega))
   have hsf := Zdx hs
   generalize m.funcs.getD x.f.toNat default = c at hzx hrm hsm hRc hsf hpl
   unfold Ze0 at hzx
   rcases List.mem_append.1 hzx with hzx | hzx
   ·rcases List.mem_append.1 hzx with hzx | hzx
    ·obtain ⟨q, hq, rfl⟩ := List.mem_map.1 hzx
     rw [List.mem_range] at hq
     unfold opA
     have hd : inn (wi ((m.funcs.getD n default).regs + q)) (funN m n).regs = true := by
      rw [Zab, wi_add hR0 (by omega) (by omega) (by omega)]; omega
     split
     ·rename_i hqa
      have := hargs (x.args.getD q 0) (Zbu 0 hqa)
      exact .inr (.inl ⟨.inl rfl, hd, (Zab _ _).2 ⟨this.1, by show x.args.getD q 0 < _; omega⟩, rfl, rfl, rfl, rfl⟩)
     ·exact .inl ⟨rfl, hd, rfl, rfl, rfl, rfl⟩
    ·obtain ⟨y, hy, rfl⟩ := List.mem_map.1 hzx
     have := hsm.2.1 y hy
     exact mv_ins hR0 hrm.1 hrm.2 this.1 this.2
   ·rw [List.mem_singleton] at hzx
    rw [hzx]
    refine .inr (.inl ⟨.inl rfl, Zcb hA.2 hle, ?_, rfl, rfl, rfl, rfl⟩)
    show inn (wi ((m.funcs.getD n default).regs + _)) _ = true
    rw [Zab, wi_add hR0 (by omega) hsm.2.2.1 (by omega)]
    have := hsm.2.2
    omega
end Go.Proofs.YtoelbgjpmpoolaaGreat
namespace Go.Proofs.YtoelbgjpmpoolaaGreat
open Go Dv
set_option maxRecDepth 10000
set_option linter.unusedSimpArgs false
set_option linter.unusedVariables false
section
variable {m : Zak} {n : Nat} {l : List Ins}
theorem openL_pos (x : Ins) (c : Func) (B : Int) : 1 ≤ (Ze0 x c B).length := by rw [Zez]; omega
theorem blkY_pos (x : Ins) : 1 ≤ (blkY m n l x).length := by
 rcases blkY_of (m := m) (n := n) (l := l) (x := x) with e | ⟨_, _, e⟩
 ·rw [e]; exact Nat.le_refl _
 ·rw [e]; exact openL_pos _ _ _
theorem outY_succ {k : Nat} (h : k < l.length) : outY m n l (k + 1) = outY m n l k ++ blkY m n l (l.getD k default) := by
 unfold outY
 rw [Zb9 default h, List.flatMap_append]; simp
theorem outY_split (k : Nat) : l.flatMap (blkY m n l) = outY m n l k ++ (l.drop k).flatMap (blkY m n l) := by
 unfold outY; rw [← List.flatMap_append, List.take_append_drop]
theorem drop_at {k : Nat} (h : k < l.length) : l.drop k = l.getD k default :: l.drop (k + 1) := by
 rw [Zbl default h]; exact List.drop_eq_getElem_cons h
theorem out_get {k j : Nat} (h : k < l.length) (hj : j < (blkY m n l (l.getD k default)).length) : (outY m n l k).length + j < (l.flatMap (blkY m n l)).length ∧ (l.flatMap (blkY m n l)).getD ((outY m n l k).length + j) default = (blkY m n l (l.getD k default)).getD j default := by
 rw [outY_split k, drop_at h, List.flatMap_cons]
 refine ⟨by simp only [List.length_append]; omega, ?_⟩
 rw [List.getD_eq_getElem?_getD, List.getElem?_append_right (by omega), Nat.add_sub_cancel_left, List.getElem?_append_left hj, ← List.getD_eq_getElem?_getD]
theorem out_all : (outY m n l l.length).length = (l.flatMap (blkY m n l)).length := by unfold outY; rw [List.take_length]
end
abbrev posI (m : Zak) (f : Za5) (k : Nat) : Nat := (outY m f.f.toNat (Za4 m f).ins k).length
abbrev blkZ (m : Zak) (f : Za5) (x : Ins) : List Ins := blkY m f.f.toNat (Za4 m f).ins x
structure FrI (m : Zak) (f g : Za5) : Prop where
 ff : g.f = f.f
 bb : g.block = f.block
 fly : g.fly = f.fly
 at_ : g.at_ = posI m f f.at_.toNat
 ag : ∀ q, q < f.regs.length → g.regs.getD q 0 = f.regs.getD q 0
section
variable {m : Zak} {f g : Za5}
theorem blkI_of (hr : Za6 m = true) (hf : OkF m f) (h1 : g.f = f.f) (h2 : g.block = f.block) : Za4 (Zat m) g = { Za4 m f with ins := (Za4 m f).ins.flatMap (blkZ m f) } := by
 have f0 := hf.f0
 have f1 := hf.f1
 have b0 := hf.b0
 have b1 := hf.b1
 unfold Za4 Zbd
 rw [h1, h2, ninl_at hr (by omega)]
 exact funN_one (show f.block.toNat < (m.funcs.getD f.f.toNat default).blocks.length by unfold Zbd at b1; omega)
theorem pad_of (hr : Za6 m = true) (hf : OkF m f) (h1 : g.f = f.f) (k : Nat) : ((Zbd (Zat m) g).blocks.getD k default).pad = ((Zbd m f).blocks.getD k default).pad := by
 have f0 := hf.f0
 have f1 := hf.f1
 unfold Zbd
 rw [h1, ninl_at hr (by omega)]
 by_cases hk : k < (m.funcs.getD f.f.toNat default).blocks.length
 ·rw [funN_one hk]
 ·rw [List.getD_eq_getElem?_getD, List.getElem?_eq_none (by rw [Zfo]; omega), List.getD_eq_getElem?_getD, List.getElem?_eq_none (by omega)]
theorem FrI.fin (hr : Za6 m = true) (hf : OkF m f) (R : FrI m f g) : (Za4 (Zat m) g).fin = (Za4 m f).fin := by rw [blkI_of hr hf R.ff R.bb]
theorem FrI.endE (hr : Za6 m = true) (hf : OkF m f) (R : FrI m f g) : endB (Zat m) g = endB m f := by
 unfold endB
 rw [blkI_of hr hf R.ff R.bb, decide_eq_decide, R.at_]
 have a0 := hf.a0
 have a1 := hf.a1
 constructor
 ·intro h
  refine Classical.byContradiction fun hc => ?_
  have h1 : posI m f f.at_.toNat + 0 < ((Za4 m f).ins.flatMap (blkZ m f)).length := (out_get (m := m) (n := f.f.toNat) (l := (Za4 m f).ins) (k := f.at_.toNat) (j := 0) (by omega) (blkY_pos _)).1
  have h' : ((posI m f f.at_.toNat : Nat) : Int) = ((((Za4 m f).ins.flatMap (blkZ m f)).length : Nat) : Int) := h
  generalize posI m f f.at_.toNat = A at h1 h'
  generalize ((Za4 m f).ins.flatMap (blkZ m f)).length = B at h1 h'
  omega
 ·intro h
  have e : f.at_.toNat = (Za4 m f).ins.length := by omega
  show ((posI m f f.at_.toNat : Nat) : Int) = _
  unfold posI
  rw [e, out_all]
theorem at_lt (hf : OkF m f) (he : endB m f = false) : f.at_.toNat < (Za4 m f).ins.length := by
 have : ¬ f.at_ = (Za4 m f).ins.length := by unfold endB at he; simpa using he
 have a0 := hf.a0
 have a1 := hf.a1
 omega
theorem ins_at (hr : Za6 m = true) (hf : OkF m f) (h1 : g.f = f.f) (h2 : g.block = f.block) (he : endB m f = false) {j : Nat} (hj : j < (blkZ m f (Zba m f)).length) (ha : g.at_ = ((posI m f f.at_.toNat + j : Nat) : Int)) :
  endB (Zat m) g = false ∧ Zba (Zat m) g = (blkZ m f (Zba m f)).getD j default := by
 have hlt := at_lt hf he
 obtain ⟨k1, k2⟩ := out_get (m := m) (n := f.f.toNat) (l := (Za4 m f).ins) hlt hj
 have e := blkI_of hr hf h1 h2
 refine ⟨?_, ?_⟩
 ·unfold endB
  rw [e, ha]
  refine decide_eq_false (fun h => ?_)
  have h' : ((posI m f f.at_.toNat + j : Nat) : Int) = ((((Za4 m f).ins.flatMap (blkZ m f)).length : Nat) : Int) := h
  have k1' : posI m f f.at_.toNat + j < ((Za4 m f).ins.flatMap (blkZ m f)).length := k1
  generalize posI m f f.at_.toNat + j = A at k1' h'
  generalize ((Za4 m f).ins.flatMap (blkZ m f)).length = B at k1' h'
  omega
 ·unfold Zba
  rw [e, ha, Int.toNat_natCast]
  exact k2
theorem pos_succ (hf : OkF m f) (he : endB m f = false) : posI m f (f.at_.toNat + 1) = posI m f f.at_.toNat + (blkZ m f (Zba m f)).length := by
 unfold posI
 rw [outY_succ (at_lt hf he), List.length_append]; rfl
theorem okF_N (hg : OkF (Zat m) g) (hr : Za6 m = true) (hf : OkF m f) (h1 : g.f = f.f) : f.regs.length ≤ g.regs.length ∧ (g.regs.length : Int) = (funN m f.f.toNat).regs := by
 have f0 := hf.f0
 have f1 := hf.f1
 have h := hg.regs
 have hfr := hf.regs
 unfold Zbd at h hfr
 rw [h1, ninl_at hr (by omega)] at h
 have := (funN_regs (m := m) (n := f.f.toNat)).1
 exact ⟨by omega, h⟩
theorem fr_next (hf : OkF m f) (hg : OkF (Zat m) g) (hr : Za6 m = true) (R : FrI m f g) (he : endB m f = false) (hy : blkZ m f (Zba m f) = [Zba m f]) (d v : Int) : FrI m (goOn (frW f d v)) (goOn (frW g d v)) := by
 have hl := (okF_N hg hr hf R.ff).1
 have hp := pos_succ hf he
 rw [hy, List.length_singleton] at hp
 refine ⟨R.ff, R.bb, R.fly, ?_, fun q hq => ?_⟩
 ·show g.at_ + 1 = ((posI m f (f.at_ + 1).toNat : Nat) : Int)
  have a0 := hf.a0
  rw [show (f.at_ + 1).toNat = f.at_.toNat + 1 by omega, hp, R.at_]; omega
 ·have hq2 : q < f.regs.length := by simpa [goOn, frW] using hq
  show (g.regs.set d.toNat v).getD q 0 = (f.regs.set d.toNat v).getD q 0
  rw [Zcm, Zcm]
  by_cases e : d.toNat = q
  ·rw [if_pos ⟨e, by omega⟩, if_pos ⟨e, by omega⟩]
  ·rw [if_neg (fun h => e h.1), if_neg (fun h => e h.1)]; exact R.ag q hq2
theorem fr_on (hf : OkF m f) (hr : Za6 m = true) (R : FrI m f g) (he : endB m f = false) (hy : blkZ m f (Zba m f) = [Zba m f]) : FrI m (goOn f) (goOn g) := by
 have hp := pos_succ hf he
 rw [hy, List.length_singleton] at hp
 refine ⟨R.ff, R.bb, R.fly, ?_, R.ag⟩
 show g.at_ + 1 = ((posI m f (f.at_ + 1).toNat : Nat) : Int)
 have a0 := hf.a0
 rw [show (f.at_ + 1).toNat = f.at_.toNat + 1 by omega, hp, R.at_]; omega
theorem fr_enter (hl : f.regs.length ≤ g.regs.length) (h1 : g.f = f.f) (h3 : g.fly = f.fly) (ag : ∀ q, q < f.regs.length → g.regs.getD q 0 = f.regs.getD q 0) (b d v : Int) : FrI m { frW f d v with block := b, at_ := 0 } { frW g d v with block := b, at_ := 0 } := by
 refine ⟨h1, rfl, h3, rfl, fun q hq => ?_⟩
 have hq2 : q < f.regs.length := by simpa [frW] using hq
 show (g.regs.set d.toNat v).getD q 0 = (f.regs.set d.toNat v).getD q 0
 rw [Zcm, Zcm]
 by_cases e : d.toNat = q
 ·rw [if_pos ⟨e, by omega⟩, if_pos ⟨e, by omega⟩]
 ·rw [if_neg (fun h => e h.1), if_neg (fun h => e h.1)]; exact ag q hq2
theorem fr_new (hr : Za6 m = true) {k : Int} (k0 : 0 ≤ k) (k1 : k < m.funcs.length) (args : List Int) : FrI m (frN m k args) (frN (Zat m) k args) := by
 have hle := (funN_regs (m := m) (n := k.toNat)).1
 refine ⟨rfl, rfl, rfl, rfl, fun q hq => ?_⟩
 have hq2 : q < (m.funcs.getD k.toNat default).regs.toNat := by simpa [frN] using hq
 unfold frN
 rw [ninl_at hr (by omega)]
 rw [List.getD_eq_getElem?_getD, List.getElem?_map, List.getElem?_range (by omega), List.getD_eq_getElem?_getD, List.getElem?_map, List.getElem?_range hq2]
def WtI (m : Zak) (f : Za5) : Prop := endB m f = false → blkZ m f (Zba m f) = [Zba m f]
theorem fr_answ (hr : Za6 m = true) (hf : OkF m f) (hg : OkF (Zat m) g) (R : FrI m f g) (hw : WtI m f) (w : Int) : FrI m (answF m f w) (answF (Zat m) g w) := by
 have hl := (okF_N hg hr hf R.ff).1
 unfold answF
 rw [R.endE hr hf, R.fin hr hf]
 split
 ·exact fr_enter hl R.ff R.fly R.ag _ _ _
 ·rename_i he
  have he : endB m f = false := by simpa using he
  have e := (ins_at hr hf R.ff R.bb he (j := 0) (blkY_pos _) (by rw [R.at_]; rfl)).2
  rw [hw he] at e
  rw [show (Za4 (Zat m) g).ins.getD g.at_.toNat default = Zba m f from e]
  exact fr_next hf hg hr R he (hw he) _ _
theorem fr_catch (hr : Za6 m = true) (hf : OkF m f) (R : FrI m f g) (w : Int) (c : Bool) : Zes m f w c = Zes (Zat m) g w c := by
 unfold Zes
 rw [R.endE hr hf, R.fin hr hf]
 have : padF (Zat m) g = padF m f := by unfold padF; rw [R.fin hr hf]; exact pad_of hr hf R.ff _
 rw [this]
theorem fr_land (hr : Za6 m = true) (hf : OkF m f) (hg : OkF (Zat m) g) (R : FrI m f g) (w : Int) : FrI m (landF m f (Za4 m f).fin.pad w) (landF (Zat m) g (Za4 (Zat m) g).fin.pad w) := by
 have hl := (okF_N hg hr hf R.ff).1
 have hp : (padOf (Zat m) g (Za4 m f).fin.pad).pad = (padOf m f (Za4 m f).fin.pad).pad := pad_of hr hf R.ff _
 unfold landF
 rw [R.fin hr hf, hp]
 exact fr_enter (f := { f with fly := w }) (g := { g with fly := w }) hl R.ff rfl R.ag _ _ _
theorem fr_go (hr : Za6 m = true) (hf : OkF m f) (hg : OkF (Zat m) g) (R : FrI m f g) (ha : (Za4 m f).fin.kind = 3 → 0 ≤ (Za4 m f).fin.a ∧ (Za4 m f).fin.a < f.regs.length) : FrI m (goF (Za4 m f) f) (goF (Za4 (Zat m) g) g) := by
 have e : (if (Za4 m f).fin.kind = 3 ∧ regA g (Za4 m f).fin.a = 0 then (Za4 m f).fin.els else (Za4 m f).fin.to) = (if (Za4 m f).fin.kind = 3 ∧ regA f (Za4 m f).fin.a = 0 then (Za4 m f).fin.els else (Za4 m f).fin.to) := by
  by_cases h3 : (Za4 m f).fin.kind = 3
  ·have h := ha h3
   have : regA g (Za4 m f).fin.a = regA f (Za4 m f).fin.a := R.ag _ (by omega)
   rw [this]
  ·rw [if_neg (fun h => h3 h.1), if_neg (fun h => h3 h.1)]
 unfold goF
 rw [R.fin hr hf]
 exact ⟨R.ff, e, R.fly, rfl, R.ag⟩
end
section
variable {m : Zak} {s : Mach}
abbrev Bel (s t : Mach) : Prop := ∀ i, i + 1 < t.stack.length → i < s.stack.length → t.stack.getD i default = s.stack.getD i default
theorem Zea {s' : Mach} {f : Za5} (h : ∀ i, i + 1 < s'.stack.length → s'.stack.getD i default = s.stack.getD i default) : Bel s (Zbh s' f) := fun i hi _ => by
 have hl : (Zbh s' f).stack.length = s'.stack.length - 1 + 1 := by show (List.take _ _ ++ [_]).length = _; simp
 show (s'.stack.take (s'.stack.length - 1) ++ [f]).getD i default = _
 rw [Zcc, if_pos (by rw [List.length_take]; omega), Zbi _ (by omega)]
 exact h i (by omega)
theorem bel_pop : ∀ i, i + 1 < (popM s).stack.length + 1 → (popM s).stack.getD i default = s.stack.getD i default := fun i hi => by
 have := Zcl (s := s)
 exact Zbi _ (by omega)
theorem bel_called {n : Int} {l : List Int} : Bel s (Zb1 m s n l) := fun i hi h2 => by
 unfold Zb1
 split
 ·rfl
 ·show (s.stack ++ [_]).getD i default = _
  rw [Zcc, if_pos h2]
theorem bel_answered {w : Int} : Bel s (Zbp m s w) := by
 unfold Zbp
 split
 ·exact fun i hi _ => bel_pop i (by have : (endM (popM s) 1 w).stack.length = (popM s).stack.length := rfl; omega)
 ·exact Zea (s' := popM s) (fun i hi => bel_pop i (by omega))
theorem bel_thrown {w : Int} : Bel s (Zbt m s w) := by
 unfold Zbt
 dsimp only
 split
 ·refine Zea (s' := Zep (popM s) _) (fun i hi => ?_)
  have hi' : i + 1 < (List.take _ (popM s).stack).length := hi
  rw [List.length_take] at hi'
  show (List.take _ (popM s).stack).getD i default = _
  rw [Zbi _ (by omega)]
  exact bel_pop i (by omega)
 ·exact fun i hi _ => bel_pop i (by have : (endM (popM s) 2 w).stack.length = (popM s).stack.length := rfl; omega)
theorem bel_ins {f : Za5} {x : Ins} : Bel s (insM m s f x) := by
 unfold insM
 split
 ·exact bel_called
 split
 ·split
  ·exact Zea (fun i _ => rfl)
  ·exact fun i _ _ => rfl
 split
 ·split
  ·exact fun i _ _ => rfl
  ·exact Zea (fun i _ => rfl)
 split
 ·split
  ·exact fun i _ _ => rfl
  ·exact Zea (s' := { s with cells := _ }) (fun i _ => rfl)
 split
 ·exact Zea (s' := { s with events := _ }) (fun i _ => rfl)
 split
 ·split
  ·exact fun i _ _ => rfl
  ·exact Zea (s' := { s with inputs := _, events := _ }) (fun i _ => rfl)
 ·exact Zea (fun i _ => rfl)
theorem bel_step : Bel s (Zb0 m s) := by
 unfold Zb0
 split
 ·unfold Zdf
  split
  ·exact bel_ins
  split
  ·exact bel_answered
  split
  ·exact bel_called
  split
  ·exact bel_thrown
  split
  ·exact bel_thrown
  ·exact Zea (fun i _ => rfl)
 ·exact fun i _ _ => rfl
end
section
variable {m : Zak} {s : Mach}
structure Few (s t : Mach) : Prop where
 st : t.stack.length ≤ s.stack.length + 1
 inp : s.inputs.length ≤ t.inputs.length + 1
theorem Zd7 {s' : Mach} {f : Za5} (h1 : s'.stack.length ≤ s.stack.length) (h2 : s.inputs.length ≤ s'.inputs.length + 1) : Few s (Zbh s' f) := ⟨by
 show (s'.stack.take (s'.stack.length - 1) ++ [f]).length ≤ _
 rw [List.length_append, List.length_take, List.length_singleton]; omega, h2⟩
theorem few_end {s' : Mach} {a b : Int} (h1 : s'.stack.length ≤ s.stack.length) (h2 : s.inputs.length ≤ s'.inputs.length + 1) : Few s (endM s' a b) := ⟨by show s'.stack.length ≤ _; omega, h2⟩
theorem few_called {n : Int} {l : List Int} : Few s (Zb1 m s n l) := by
 unfold Zb1
 split
 ·exact few_end (Nat.le_refl _) (Nat.le_succ _)
 ·exact ⟨by simp, Nat.le_succ _⟩
theorem few_answered {w : Int} : Few s (Zbp m s w) := by
 have := Zcl (s := s)
 unfold Zbp
 split
 ·exact few_end (s' := popM s) (by omega) (Nat.le_succ _)
 ·exact Zd7 (s' := popM s) (by omega) (Nat.le_succ _)
theorem few_thrown {w : Int} : Few s (Zbt m s w) := by
 have := Zcl (s := s)
 unfold Zbt
 dsimp only
 split
 ·exact Zd7 (s' := Zep (popM s) _) (by show (List.take _ _).length ≤ _; rw [List.length_take]; omega) (Nat.le_succ _)
 ·exact few_end (s' := popM s) (by omega) (Nat.le_succ _)
theorem few_ins {f : Za5} {x : Ins} : Few s (insM m s f x) := by
 unfold insM
 split
 ·exact few_called
 split
 ·split
  ·exact Zd7 (Nat.le_refl _) (Nat.le_succ _)
  ·exact few_end (Nat.le_refl _) (Nat.le_succ _)
 split
 ·split
  ·exact few_end (Nat.le_refl _) (Nat.le_succ _)
  ·exact Zd7 (Nat.le_refl _) (Nat.le_succ _)
 split
 ·split
  ·exact few_end (Nat.le_refl _) (Nat.le_succ _)
  ·exact Zd7 (s' := { s with cells := _ }) (Nat.le_refl _) (Nat.le_succ _)
 split
 ·exact Zd7 (s' := { s with events := _ }) (Nat.le_refl _) (Nat.le_succ _)
 split
 ·split
  ·exact few_end (Nat.le_refl _) (Nat.le_succ _)
  ·exact Zd7 (s' := { s with inputs := s.inputs.drop 1, events := _ }) (Nat.le_refl _) (by show _ ≤ (s.inputs.drop 1).length + 1; rw [List.length_drop]; omega)
 ·exact Zd7 (Nat.le_refl _) (Nat.le_succ _)
theorem few_step : Few s (Zb0 m s) := by
 unfold Zb0
 split
 ·unfold Zdf
  split
  ·exact few_ins
  split
  ·exact few_answered
  split
  ·exact few_called
  split
  ·exact few_thrown
  split
  ·exact few_thrown
  ·exact Zd7 (Nat.le_refl _) (Nat.le_succ _)
 ·exact ⟨Nat.le_succ _, Nat.le_succ _⟩
end
structure RA (m : Zak) (s t : Mach) : Prop where
 r : RelM (FrI m) s t
 w : ∀ i, i + 1 < s.stack.length → WtI m (s.stack.getD i default)
section
variable {m : Zak} {s t : Mach}
theorem wt_step (hw : ∀ i, i + 1 < s.stack.length → WtI m (s.stack.getD i default)) (ht : WtI m (topF s)) : ∀ i, i + 1 < (Zb0 m s).stack.length → WtI m ((Zb0 m s).stack.getD i default) := fun i hi => by
 have h1 := (few_step (m := m) (s := s)).st
 by_cases h2 : i < s.stack.length
 ·rw [bel_step i hi h2]
  by_cases h3 : i + 1 < s.stack.length
  ·exact hw i h3
  ·have : i = s.stack.length - 1 := by omega
   rw [this]; exact ht
 ·omega
theorem stepA_end (hr : Za6 m = true) (hs : OkM m s) (ht : OkM (Zat m) t) (R : RA m s t) (hd : s.done = 0) (he : endB m (topF s) = true) : RA m (Zb0 m s) (Zb0 (Zat m) t) := by
 refine ⟨?_, wt_step R.w (fun h => by rw [he] at h; cases h)⟩
 have hl := hs.pos hd
 have hd2 : t.done = 0 := by rw [← R.r.tell.dn]; exact hd
 have hl2 := ht.pos hd2
 have hL := R.r.st hd
 have hf := hs.fr _ (Zdd hl)
 have hg := ht.fr _ (Zdd hl2)
 have hR := relM_top R.r hd hl
 have hfin := hR.fin hr hf
 have hE2 := hR.endE hr hf
 rw [he] at hE2
 have hE := (Zfi hr hf).2
 have hreg := hf.regs
 have hA : ∀ p : Int, 0 ≤ p ∧ p < (topF s).regs.length → regA (topF t) p = regA (topF s) p := fun p hp => hR.ag _ (by omega)
 rw [show Zb0 m s = Zdf m s (topF s) (Za4 m (topF s)) from if_pos hd, show Zb0 (Zat m) t = Zdf (Zat m) t (topF t) (Za4 (Zat m) (topF t)) from if_pos hd2]
 unfold Zdf
 rw [he, hE2, if_neg (show ¬ (true = false) by decide), if_neg (show ¬ (true = false) by decide), hfin]
 have hpop : 1 < s.stack.length → ∀ w, FrI m (answF m (topF (popM s)) w) (answF (Zat m) (topF (popM t)) w) := fun h2 w => by
  have k1 := Zfg hs h2
  have k2 := Zfg ht (by rw [← hL.len]; exact h2)
  have kR := relM_top (relM_pop R.r hd) hd (by rw [Zcl]; omega)
  refine fr_answ hr k1.1 k2.1 kR ?_ w
  have : topF (popM s) = s.stack.getD (s.stack.length - 2) default := top_pop h2
  rw [this]; exact R.w _ (by omega)
 have hthr : ∀ w, RelM (FrI m) (Zbt m s w) (Zbt (Zat m) t w) := fun w => by
  refine relM_thrown R.r hd (fun i hi c => ?_) (fun i hi hc => ?_)
  ·exact fr_catch hr (hs.fr _ (Zbu _ (by omega))) (hL.at_ i (by omega)) w c
  ·exact fr_land hr (hs.fr _ (Zbu _ (by omega))) (ht.fr _ (Zbu _ (by have := hL.len; omega))) (hL.at_ i (by omega)) w
 by_cases h1 : (Za4 m (topF s)).fin.kind = 1
 ·have ha : regA (topF t) (Za4 m (topF s)).fin.a = regA (topF s) (Za4 m (topF s)).fin.a := hA (Za4 m (topF s)).fin.a (by rcases hE with h | h | h | h | h <;> first | omega | (have := (Zab _ _).1 h.2.1; omega))
  rw [if_pos h1, if_pos h1, ha]
  exact relM_answered R.r hd hl (fun h2 => hpop h2 _)
 rw [if_neg h1, if_neg h1]
 by_cases h4 : (Za4 m (topF s)).fin.kind = 4
 ·rw [if_pos h4, if_pos h4]
  have hAr : Zdq m (Zbd m (topF s)) (Za4 m (topF s)).fin.f (Za4 m (topF s)).fin.args = true := by
   rcases hE with h | h | h | h | h
   ·omega
   ·omega
   ·omega
   ·exact h.2.2.2.1
   ·omega
  have hn := Zeu hAr
  have e : Zb2 (topF s) (Za4 m (topF s)).fin.args = Zb2 (topF t) (Za4 m (topF s)).fin.args := by
   unfold Zb2
   exact List.map_congr_left (fun p hp => (hA p (by have := hn.2.2 p hp; omega)).symm)
  exact relM_called R.r hd e (fr_new hr hn.1.1 hn.1.2 _)
 rw [if_neg h4, if_neg h4]
 by_cases h5 : (Za4 m (topF s)).fin.kind = 5
 ·have ha : regA (topF t) (Za4 m (topF s)).fin.a = regA (topF s) (Za4 m (topF s)).fin.a := hA (Za4 m (topF s)).fin.a (by rcases hE with h | h | h | h | h <;> first | omega | (have := (Zab _ _).1 h.2.1; omega))
  rw [if_pos h5, if_pos h5, ha]
  exact hthr _
 rw [if_neg h5, if_neg h5]
 by_cases h6 : (Za4 m (topF s)).fin.kind = 6
 ·rw [if_pos h6, if_pos h6, hR.fly]
  exact hthr _
 rw [if_neg h6, if_neg h6]
 have hgo := fr_go hr hf hg hR (fun h3 => by
  rcases hE with h | h | h | h | h <;> first | omega | (have := (Zab _ _).1 h.2.1; omega))
 exact Zdy R.r hd hgo
end
section
variable {m : Zak} {s t : Mach}
theorem stepA_ins (hr : Za6 m = true) (hs : OkM m s) (ht : OkM (Zat m) t) (R : RA m s t) (hd : s.done = 0) (he : endB m (topF s) = false) (hy : blkZ m (topF s) (Zba m (topF s)) = [Zba m (topF s)]) : RA m (Zb0 m s) (Zb0 (Zat m) t) := by
 refine ⟨?_, wt_step R.w (fun _ => hy)⟩
 have hl := hs.pos hd
 have hd2 : t.done = 0 := by rw [← R.r.tell.dn]; exact hd
 have hl2 := ht.pos hd2
 have hL := R.r.st hd
 have hf := hs.fr _ (Zdd hl)
 have hg := ht.fr _ (Zdd hl2)
 have hR := relM_top R.r hd hl
 have hI := (okF_ins hr hf he).2
 have hreg := hf.regs
 obtain ⟨he2, hi2⟩ := ins_at hr hf hR.ff hR.bb he (j := 0) (blkY_pos _) (by rw [hR.at_]; rfl)
 rw [hy] at hi2
 have hi2 : Zba (Zat m) (topF t) = Zba m (topF s) := hi2
 rw [show Zb0 m s = Zdf m s (topF s) (Za4 m (topF s)) from if_pos hd, show Zb0 (Zat m) t = Zdf (Zat m) t (topF t) (Za4 (Zat m) (topF t)) from if_pos hd2]
 unfold Zdf
 rw [if_pos he, if_pos he2]
 show RelM (FrI m) (insM m s (topF s) (Zba m (topF s))) (insM (Zat m) t (topF t) (Zba (Zat m) (topF t)))
 rw [hi2]
 have same : ∀ p : Int, inn p (Zbd m (topF s)).regs = true → (topF t).regs.getD p.toNat 0 = (topF s).regs.getD p.toNat 0 := fun p hp => by
  have := (Zab _ _).1 hp
  exact hR.ag _ (by omega)
 have nextW := fun d v => fr_next hf hg hr hR he hy d v
 have nextN := fr_on (g := topF t) hf hr hR he hy
 generalize Zba m (topF s) = x at hI nextW nextN
 have R := R.r
 generalize hfe : topF s = f at *
 generalize hge : topF t = g at *
 unfold insM
 by_cases h11 : x.op = 11
 ·rw [if_pos h11, if_pos h11]
  have hA : Zdq m (Zbd m f) x.f x.args = true := by
   rcases hI with h | h | h | h | h | h | h <;> first | omega | exact h.2.2.2.2.2
  have hn := Zeu hA
  refine relM_called R hd ?_ (fr_new hr hn.1.1 hn.1.2 _)
  unfold Zb2
  rw [hfe, hge]
  exact List.map_congr_left (fun p hp => (same p ((Zab _ _).2 (hn.2.2 p hp))).symm)
 rw [if_neg h11, if_neg h11]
 by_cases h8 : x.op ≤ 8
 ·rw [if_pos h8, if_pos h8]
  have hv : reckV g x = reckV f x := by
   unfold reckV
   by_cases h1 : x.op = 1
   ·rw [if_pos h1, if_pos h1]
   ·rw [if_neg h1, if_neg h1]
    by_cases h2 : x.op = 2
    ·have ha : inn x.a (Zbd m f).regs = true := by
      rcases hI with h | h | h | h | h | h | h <;> first | omega | exact h.2.2.1
     rw [if_neg (by omega), if_neg (by omega), same _ ha]
    ·have hab : inn x.a (Zbd m f).regs = true ∧ inn x.b (Zbd m f).regs = true := by
      rcases hI with h | h | h | h | h | h | h <;> first | omega | exact ⟨h.2.2.1, h.2.2.2.1⟩
     rw [same _ hab.1, same _ hab.2]
  unfold reckR
  rw [hv]
  by_cases hok : (reckV f x).2 = true
  ·rw [if_pos hok, if_pos hok]
   exact Zdy R hd (nextW _ _)
  ·rw [if_neg hok, if_neg hok]
   exact Zfe R (by decide)
 rw [if_neg h8, if_neg h8]
 by_cases h9 : x.op = 9
 ·rw [if_pos h9, if_pos h9]
  have ha : inn x.a (Zbd m f).regs = true := by
   rcases hI with h | h | h | h | h | h | h <;> first | omega | exact h.2.2.1
  unfold cellN
  rw [same _ ha, ← R.cells]
  split
  ·exact Zfe R (by decide)
  ·exact Zdy R hd (nextW _ _)
 rw [if_neg h9, if_neg h9]
 by_cases h10 : x.op = 10
 ·rw [if_pos h10, if_pos h10]
  have hab : inn x.a (Zbd m f).regs = true ∧ inn x.b (Zbd m f).regs = true := by
   rcases hI with h | h | h | h | h | h | h <;> first | omega | exact ⟨h.2.2.1, h.2.2.2.1⟩
  unfold cellN
  rw [same _ hab.1, same _ hab.2, ← R.cells]
  split
  ·exact Zfe R (by decide)
  ·exact Zdy (relM_ev (s' := { s with cells := s.cells.set (f.regs.getD x.a.toNat 0).toNat (f.regs.getD x.b.toNat 0) }) (t' := { t with cells := s.cells.set (f.regs.getD x.a.toNat 0).toNat (f.regs.getD x.b.toNat 0) }) R ⟨R.tell.ev, R.tell.dn, R.tell.va⟩ rfl R.inp rfl rfl rfl) hd nextN
 rw [if_neg h10, if_neg h10]
 by_cases h12 : x.op = 12
 ·rw [if_pos h12, if_pos h12]
  have ha : inn x.a (Zbd m f).regs = true := by
   rcases hI with h | h | h | h | h | h | h <;> first | omega | exact h.2.2.1
  rw [same _ ha, ← R.tell.ev]
  exact Zdy (relM_ev (s' := { s with events := s.events ++ [f.regs.getD x.a.toNat 0] }) (t' := { t with events := s.events ++ [f.regs.getD x.a.toNat 0] }) R ⟨rfl, R.tell.dn, R.tell.va⟩ R.cells R.inp rfl rfl rfl) hd nextN
 rw [if_neg h12, if_neg h12]
 by_cases h13 : x.op = 13
 ·rw [if_pos h13, if_pos h13, ← R.inp, ← R.tell.ev]
  split
  ·exact Zfe R (by decide)
  ·exact Zdy (relM_ev (s' := { s with inputs := s.inputs.drop 1, events := s.events ++ [s.inputs.getD 0 0 + 65536] }) (t' := { t with inputs := s.inputs.drop 1, events := s.events ++ [s.inputs.getD 0 0 + 65536] }) R ⟨rfl, R.tell.dn, R.tell.va⟩ R.cells rfl rfl rfl rfl) hd (nextW _ _)
 ·exfalso
  rcases hI with h | h | h | h | h | h | h <;> omega
end
end Go.Proofs.YtoelbgjpmpoolaaGreat
namespace Go.Proofs.YtoelbgjpmpoolaaGreat
open Go Dv
set_option maxRecDepth 10000
set_option linter.unusedSimpArgs false
set_option linter.unusedVariables false
theorem top_wth {s : Mach} {f : Za5} (h : 0 < s.stack.length) : topF (Zbh s f) = f := by
 unfold topF Zbh
 show (s.stack.take _ ++ [f]).getD ((s.stack.take _ ++ [f]).length - 1) default = f
 rw [Zcc, List.length_append, List.length_singleton, List.length_take, if_neg (by omega), if_pos (by omega)]
theorem wth_wth {s : Mach} {f g : Za5} (h : 0 < s.stack.length) : Zbh (Zbh s f) g = Zbh s g := by
 unfold Zbh
 have : (s.stack.take (s.stack.length - 1)).length = s.stack.length - 1 := by rw [List.length_take]; omega
 simp only [List.length_append, List.length_singleton, this, Nat.add_sub_cancel]
 rw [List.take_append_of_le_length (by omega), List.take_of_length_le (by omega)]
theorem wth_len {s : Mach} {f : Za5} (h : 0 < s.stack.length) : (Zbh s f).stack.length = s.stack.length := by
 show (s.stack.take _ ++ [f]).length = _
 rw [List.length_append, List.length_singleton, List.length_take]; omega
theorem with_top {s : Mach} (h : 0 < s.stack.length) : Zbh s (topF s) = s := by
 have e1 : s.stack.take (s.stack.length - 1 + 1) = s.stack.take (s.stack.length - 1) ++ [s.stack.getD (s.stack.length - 1) default] := by
  rw [List.take_add_one, List.getD_eq_getElem?_getD, List.getElem?_eq_getElem (by omega)]; rfl
 rw [show s.stack.length - 1 + 1 = s.stack.length by omega, List.take_length] at e1
 unfold Zbh topF
 rw [← e1]
abbrev calF (m : Zak) (f : Za5) : Func := m.funcs.getD (Zba m f).f.toNat default
structure OpenF (m : Zak) (f : Za5) : Prop where
 e : endB m f = false
 o : opnB m f.f.toNat (Za4 m f).ins = true
 i : inlX m f.f.toNat (Zba m f) = true
 z : blkZ m f (Zba m f) = Ze0 (Zba m f) (calF m f) (Zbd m f).regs
theorem open_of {m : Zak} {f : Za5} (he : endB m f = false) : blkZ m f (Zba m f) = [Zba m f] ∨ OpenF m f := by
 rcases blkY_of (m := m) (n := f.f.toNat) (l := (Za4 m f).ins) (x := Zba m f) with e | ⟨a, b, c⟩
 ·exact .inl e
 ·exact .inr ⟨he, a, b, c⟩
structure OpenK (m : Zak) (f : Za5) : Prop where
 op : (Zba m f).op = 11
 ar : Zdq m (Zbd m f) (Zba m f).f (Zba m f).args = true
 ds : 0 ≤ (Zba m f).dst ∧ (Zba m f).dst < (Zbd m f).regs
 sm : smallF (calF m f) = true
 fc : 0 ≤ (Zba m f).f ∧ (Zba m f).f < m.funcs.length
 rg : 0 < (calF m f).regs ∧ (calF m f).regs ≤ 16 ∧ 0 ≤ (Zbd m f).regs ∧ (Zbd m f).regs ≤ 256
 rm : (Zbd m f).regs + (calF m f).regs ≤ (funN m f.f.toNat).regs ∧ (funN m f.f.toNat).regs ≤ 256
 fi : 0 ≤ ((calF m f).blocks.getD 0 default).fin.a ∧ ((calF m f).blocks.getD 0 default).fin.a < (calF m f).regs
theorem open_k {m : Zak} {f : Za5} (hr : Za6 m = true) (hf : OkF m f) (h : OpenF m f) : OpenK m f := by
 obtain ⟨h11, _, hs⟩ := inlX_of h.i
 have hI := (okF_ins hr hf h.e).2
 have hA : Zdq m (Zbd m f) (Zba m f).f (Zba m f).args = true ∧ inn (Zba m f).dst (Zbd m f).regs = true := by
  rcases hI with h | h | h | h | h | h | h <;> first | omega | exact ⟨h.2.2.2.2.2, h.2.1⟩
 have hn := Zeu hA.1
 have hsm := small_end hr (k := (Zba m f).f.toNat) (by omega) hs
 have b0 := hf.b0
 have b1 := hf.b1
 have hrm := base_room (m := m) (n := f.f.toNat) (k := f.block.toNat) (by unfold Zbd at b1; omega) h.o (x := Zba m f) (Zbu default (at_lt hf h.e)) h.i
 have hsf := Zdx hs
 have hreg := hf.regs
 have k1 : 0 ≤ ((calF m f).blocks.getD 0 default).fin.a ∧ ((calF m f).blocks.getD 0 default).fin.a < (calF m f).regs := hsm.2.2
 have k2 : (Zbd m f).regs + (calF m f).regs ≤ (funN m f.f.toNat).regs := hrm.1
 refine ⟨h11, hA.1, (Zab _ _).1 hA.2, hs, hn.1, ⟨by omega, hsf.2.1, by omega, by omega⟩, hrm, hsm.2.2⟩
section
variable {m : Zak} {f g : Za5}
theorem openL_arg {x : Ins} {c : Func} {B : Int} {k : Nat} (h : k < c.regs.toNat) : (Ze0 x c B).getD k default = opA x B k := by
 unfold Ze0
 rw [List.getD_eq_getElem?_getD, List.append_assoc, List.getElem?_append_left (by rw [opP_len]; exact h), ← List.getD_eq_getElem?_getD]
 unfold opP
 rw [List.getD_eq_getElem?_getD, List.getElem?_map, List.getElem?_range h]; rfl
theorem openL_in {x : Ins} {c : Func} {B : Int} {k : Nat} (h : k < (c.blocks.getD 0 default).ins.length) : (Ze0 x c B).getD (c.regs.toNat + k) default = mv1 ((c.blocks.getD 0 default).ins.getD k default) B := by
 unfold Ze0
 rw [List.getD_eq_getElem?_getD, List.append_assoc, List.getElem?_append_right (by rw [opP_len]; omega), opP_len, Nat.add_sub_cancel_left, List.getElem?_append_left (by rw [List.length_map]; exact h), List.getElem?_map, List.getElem?_eq_getElem h, Zbl default h]; rfl
theorem openL_end {x : Ins} {c : Func} {B : Int} : (Ze0 x c B).getD (c.regs.toNat + (c.blocks.getD 0 default).ins.length) default = opEnd x c B := by
 unfold Ze0
 rw [List.getD_eq_getElem?_getD, List.getElem?_append_right (by rw [List.length_append, opP_len, List.length_map]; omega), List.length_append, opP_len, List.length_map, Nat.sub_self]; rfl
structure Op (m : Zak) (f g : Za5) (k : Nat) : Prop where
 ff : g.f = f.f
 bb : g.block = f.block
 fly : g.fly = f.fly
 at_ : g.at_ = ((posI m f f.at_.toNat + k : Nat) : Int)
 ag : ∀ q, q < f.regs.length → g.regs.getD q 0 = f.regs.getD q 0
 len : f.regs.length + (calF m f).regs.toNat ≤ g.regs.length
theorem op_ins (hr : Za6 m = true) (hf : OkF m f) (hO : OpenF m f) {k : Nat} (P : Op m f g k) (hk : k < (Ze0 (Zba m f) (calF m f) (Zbd m f).regs).length) : endB (Zat m) g = false ∧ Zba (Zat m) g = (Ze0 (Zba m f) (calF m f) (Zbd m f).regs).getD k default := by
 have := ins_at hr hf P.ff P.bb hO.e (j := k) (by rw [hO.z]; exact hk) P.at_
 rw [hO.z] at this
 exact this
theorem Op.set (hl : 0 ≤ (Zbd m f).regs) {k : Nat} (hf : OkF m f) (P : Op m f g k) {q : Nat} (v : Int) : Op m f (goOn (frW g ((Zbd m f).regs + q) v)) (k + 1) := by
 have hreg := hf.regs
 refine ⟨P.ff, P.bb, P.fly, ?_, fun i hi => ?_, ?_⟩
 ·show g.at_ + 1 = _
  rw [P.at_]; omega
 ·show (g.regs.set _ v).getD i 0 = _
  rw [Zcm, if_neg (by omega)]
  exact P.ag i hi
 ·show _ ≤ (g.regs.set _ v).length
  rw [List.length_set]; exact P.len
theorem Op.on {k : Nat} (P : Op m f g k) : Op m f (goOn g) (k + 1) := by
 refine ⟨P.ff, P.bb, P.fly, ?_, P.ag, P.len⟩
 show g.at_ + 1 = _
 rw [P.at_]; omega
theorem step_ins {M : Zak} {t : Mach} {x : Ins} (hd : t.done = 0) (he : endB M (topF t) = false) (hi : Zba M (topF t) = x) : Zb0 M t = insM M t (topF t) x := by
 rw [show Zb0 M t = Zdf M t (topF t) (Za4 M (topF t)) from if_pos hd]
 unfold Zdf
 rw [if_pos he, ← hi]
 rfl
theorem ins_copy {M : Zak} {t : Mach} {g : Za5} {d a : Int} : insM M t g ⟨2, d, a, 0, 0, 0, []⟩ = Zbh t (goOn (frW g d (g.regs.getD a.toNat 0))) := by
 rfl
theorem ins_zero {M : Zak} {t : Mach} {g : Za5} {d : Int} : insM M t g ⟨1, d, 0, 0, 0, 0, []⟩ = Zbh t (goOn (frW g d 0)) := by
 rfl
theorem argsOf_len {l : List Int} : (Zb2 f l).length = l.length := by unfold Zb2; simp
theorem par_step (hr : Za6 m = true) (hf : OkF m f) (hO : OpenF m f) {t : Mach} {k : Nat} (P : Op m f (topF t) k) (hk : k < (calF m f).regs.toNat) (hd : t.done = 0) :
  ∃ g', Zb0 (Zat m) t = Zbh t g' ∧ Op m f g' (k + 1) ∧ (∀ q, q < k → g'.regs.getD (f.regs.length + q) 0 = (topF t).regs.getD (f.regs.length + q) 0) ∧ g'.regs.getD (f.regs.length + k) 0 = regN (Zb2 f (Zba m f).args) k := by
 have K := open_k hr hf hO
 have hn := Zeu K.ar
 have hreg := hf.regs
 have hrg := K.rg
 obtain ⟨he, hi⟩ := op_ins hr hf hO P (by rw [Zez]; omega)
 rw [openL_arg hk] at hi
 have hv : Zb0 (Zat m) t = Zbh t (goOn (frW (topF t) ((Zbd m f).regs + k) (regN (Zb2 f (Zba m f).args) k))) := by
  rw [step_ins hd he hi]
  unfold opA regN
  rw [argsOf_len, wi_add hrg.2.2.1 (by omega) (by omega) (by omega)]
  by_cases h : k < (Zba m f).args.length
  ·rw [if_pos h, if_pos h, ins_copy]
   have h2 := hn.2.2 ((Zba m f).args.getD k 0) (Zbu 0 h)
   have e : (Zb2 f (Zba m f).args).getD k 0 = f.regs.getD ((Zba m f).args.getD k 0).toNat 0 := by
    unfold Zb2
    rw [List.getD_eq_getElem?_getD, List.getElem?_map, List.getElem?_eq_getElem h, Zbl 0 h]; rfl
   rw [e, P.ag _ (by omega)]
  ·rw [if_neg h, if_neg h, ins_zero]
 refine ⟨_, hv, P.set hrg.2.2.1 hf _, fun q hq => ?_, ?_⟩
 ·show ((topF t).regs.set _ _).getD _ 0 = _
  rw [Zcm, if_neg (by omega)]
 ·show ((topF t).regs.set _ _).getD _ 0 = _
  have := P.len
  rw [Zcm, if_pos (by omega)]
theorem par_run (hr : Za6 m = true) (hf : OkF m f) (hO : OpenF m f) {inputs : List Int} {j : Nat} (P : Op m f (topF (runM (Zat m) inputs j)) 0) (hd : (runM (Zat m) inputs j).done = 0) (hl : 0 < (runM (Zat m) inputs j).stack.length) :
  ∀ k, k ≤ (calF m f).regs.toNat → ∃ g', runM (Zat m) inputs (j + k) = Zbh (runM (Zat m) inputs j) g' ∧ Op m f g' k ∧ ∀ q, q < k → g'.regs.getD (f.regs.length + q) 0 = regN (Zb2 f (Zba m f).args) q
 | 0, _ => ⟨topF (runM (Zat m) inputs j), (with_top hl).symm, P, fun q hq => by omega⟩
 | k + 1, hk => by
   obtain ⟨g', h1, h2, h3⟩ := par_run hr hf hO P hd hl k (by omega)
   have ht : topF (runM (Zat m) inputs (j + k)) = g' := by rw [h1]; exact top_wth hl
   obtain ⟨g2, e1, e2, e3, e4⟩ := par_step hr hf hO (t := runM (Zat m) inputs (j + k)) (k := k) (by rw [ht]; exact h2) (by omega) (by rw [h1]; exact hd)
   refine ⟨g2, ?_, e2, fun q hq => ?_⟩
   ·show Zb0 (Zat m) (runM (Zat m) inputs (j + k)) = _
    rw [e1, h1, wth_wth hl]
   ·by_cases hqk : q = k
    ·rw [hqk]; exact e4
    ·rw [e3 q (by omega), ht]; exact h3 q (by omega)
end
set_option linter.unusedVariables false
abbrev dnF (s : Mach) : Za5 := s.stack.getD (s.stack.length - 2) default
structure RB (m : Zak) (s t : Mach) : Prop where
 d : s.done = 0
 tell : TellA s t
 cells : s.cells = t.cells
 inp : s.inputs = t.inputs
 ln : s.stack.length = t.stack.length + 1
 pos : 0 < t.stack.length
 lo : ∀ i, i + 1 < t.stack.length → FrI m (s.stack.getD i default) (t.stack.getD i default)
 w : ∀ i, i + 1 < t.stack.length → WtI m (s.stack.getD i default)
 op : OpenF m (dnF s)
 cf : (topF s).f = (Zba m (dnF s)).f
 cb : (topF s).block = 0
 O : Op m (dnF s) (topF t) ((calF m (dnF s)).regs.toNat + (topF s).at_.toNat)
 ag : ∀ q, q < (topF s).regs.length → (topF t).regs.getD ((dnF s).regs.length + q) 0 = (topF s).regs.getD q 0
section
variable {m : Zak} {s t : Mach}
theorem call_open (hr : Za6 m = true) (hs : OkM m s) {inputs : List Int} {j : Nat} (ht : OkM (Zat m) (runM (Zat m) inputs j)) (R : RA m s (runM (Zat m) inputs j)) (hd : s.done = 0) (hO : OpenF m (topF s)) :
  ∃ d, d ≤ 20 ∧ (RB m (Zb0 m s) (runM (Zat m) inputs (j + d)) ∨ ((Zb0 m s).done = 5 ∧ (Zb0 m s).events = (runM (Zat m) inputs (j + d)).events)) := by
 have hl := hs.pos hd
 have hf := hs.fr _ (Zdd hl)
 have K := open_k hr hf hO
 have hn := Zeu K.ar
 have hrg := K.rg
 have hd2 : (runM (Zat m) inputs j).done = 0 := by rw [← R.r.tell.dn]; exact hd
 have hl2 := ht.pos hd2
 have hg := ht.fr _ (Zdd hl2)
 have hR := relM_top R.r hd hl
 have hL := R.r.st hd
 have hN := okF_N hg hr hf hR.ff
 have hreg := hf.regs
 have hrm := K.rm
 have hst : Zb0 m s = Zb1 m s (Zba m (topF s)).f (Zba m (topF s)).args := by
  rw [step_ins hd hO.e rfl]; unfold insM; rw [if_pos K.op]
 rw [hst]
 unfold Zb1
 by_cases h32 : 32 ≤ s.stack.length
 ·rw [if_pos h32]
  exact ⟨0, by omega, .inr ⟨rfl, R.r.tell.ev⟩⟩
 rw [if_neg h32]
 have P0 : Op m (topF s) (topF (runM (Zat m) inputs j)) 0 := ⟨hR.ff, hR.bb, hR.fly, hR.at_, hR.ag, by omega⟩
 obtain ⟨g', h1, h2, h3⟩ := par_run hr hf hO P0 hd2 hl2 (calF m (topF s)).regs.toNat (Nat.le_refl _)
 refine ⟨(calF m (topF s)).regs.toNat, by omega, .inl ?_⟩
 rw [h1]
 generalize hc : frN m (Zba m (topF s)).f (Zb2 (topF s) (Zba m (topF s)).args) = c
 have e1 : dnF { s with stack := s.stack ++ [c] } = topF s := by
  show (s.stack ++ [c]).getD ((s.stack ++ [c]).length - 2) default = _
  rw [Zcc, List.length_append, List.length_singleton, if_pos (by omega)]; rfl
 have e2 : topF { s with stack := s.stack ++ [c] } = c := by
  show (s.stack ++ [c]).getD ((s.stack ++ [c]).length - 1) default = _
  rw [Zcc, List.length_append, List.length_singleton, if_neg (by omega), if_pos (by omega)]
 have e3 : topF (Zbh (runM (Zat m) inputs j) g') = g' := top_wth hl2
 have e4 := wth_len (f := g') hl2
 have el := hL.len
 refine ⟨hd, ⟨R.r.tell.ev, R.r.tell.dn, R.r.tell.va⟩, R.r.cells, R.r.inp, ?_, by omega, fun i hi => ?_, fun i hi => ?_, ?_, ?_, ?_, ?_, ?_⟩
 ·rw [e4]
  show (s.stack ++ [c]).length = _
  rw [List.length_append, List.length_singleton]; omega
 ·rw [e4] at hi
  show FrI m ((s.stack ++ [c]).getD i default) ((List.take _ _ ++ [g']).getD i default)
  rw [Zcc, if_pos (by omega), Zcc, if_pos (by rw [List.length_take]; omega), Zbi _ (by omega)]
  exact hL.at_ i (by omega)
 ·rw [e4] at hi
  show WtI m ((s.stack ++ [c]).getD i default)
  rw [Zcc, if_pos (by omega)]
  exact R.w i (by omega)
 ·rw [e1]; exact hO
 ·rw [e1, e2, ← hc]; rfl
 ·rw [e2, ← hc]; rfl
 ·rw [e1, e2, e3, ← hc]; exact h2
 ·rw [e1, e2, e3]
  intro q hq
  have hq2 : q < (calF m (topF s)).regs.toNat := by rw [← hc] at hq; simpa [frN] using hq
  rw [h3 q hq2, ← hc]
  show _ = ((List.range (calF m (topF s)).regs.toNat).map _).getD q 0
  rw [List.getD_eq_getElem?_getD, List.getElem?_map, List.getElem?_range hq2]; rfl
theorem rb_with (B : RB m s t) {s' t' : Mach} (h1 : s'.stack = s.stack) (h2 : t'.stack = t.stack) (hd : s'.done = 0) (hT : TellA s' t') (hC : s'.cells = t'.cells) (hI : s'.inputs = t'.inputs) {c g : Za5} (k1 : c.f = (topF s).f) (k2 : c.block = 0)
  (k3 : Op m (dnF s) g ((calF m (dnF s)).regs.toNat + c.at_.toNat)) (k4 : ∀ q, q < c.regs.length → g.regs.getD ((dnF s).regs.length + q) 0 = c.regs.getD q 0) : RB m (Zbh s' c) (Zbh t' g) := by
 have hp := B.pos
 have hln := B.ln
 have hps : 0 < s'.stack.length := by rw [h1]; omega
 have hpt : 0 < t'.stack.length := by rw [h2]; omega
 have e1 : topF (Zbh s' c) = c := top_wth hps
 have e2 : topF (Zbh t' g) = g := top_wth hpt
 have e3 := wth_len (f := c) hps
 have e4 := wth_len (f := g) hpt
 have a1 : ∀ i, i + 1 < s.stack.length → (Zbh s' c).stack.getD i default = s.stack.getD i default := fun i hi => by
  show (List.take _ _ ++ [c]).getD i default = _
  rw [Zcc, h1, if_pos (by rw [List.length_take]; omega), Zbi _ (by omega)]
 have a2 : ∀ i, i + 1 < t.stack.length → (Zbh t' g).stack.getD i default = t.stack.getD i default := fun i hi => by
  show (List.take _ _ ++ [g]).getD i default = _
  rw [Zcc, h2, if_pos (by rw [List.length_take]; omega), Zbi _ (by omega)]
 have e5 : dnF (Zbh s' c) = dnF s := by
  show (Zbh s' c).stack.getD ((Zbh s' c).stack.length - 2) default = _
  rw [e3, h1, a1 _ (by omega)]
 refine ⟨hd, ⟨hT.ev, hT.dn, hT.va⟩, hC, hI, by rw [e3, e4, h1, h2]; exact hln, by rw [e4]; exact hpt, fun i hi => ?_, fun i hi => ?_, ?_, ?_, ?_, ?_, ?_⟩
 ·rw [e4, h2] at hi
  rw [a1 i (by omega), a2 i hi]; exact B.lo i hi
 ·rw [e4, h2] at hi
  rw [a1 i (by omega)]; exact B.w i hi
 ·rw [e5]; exact B.op
 ·rw [e5, e1, k1]; exact B.cf
 ·rw [e1]; exact k2
 ·rw [e5, e1, e2]; exact k3
 ·rw [e5, e1, e2]; exact k4
structure RBk (m : Zak) (s t : Mach) : Prop where
 hf : OkF m (dnF s)
 hc : OkF m (topF s)
 K : OpenK m (dnF s)
 fn : Zbd m (topF s) = calF m (dnF s)
 bk : Za4 m (topF s) = (calF m (dnF s)).blocks.getD 0 default
theorem RB.k (hr : Za6 m = true) (hs : OkM m s) (B : RB m s t) : RBk m s t := by
 have hl := hs.pos B.d
 have hln := B.ln
 have hp := B.pos
 have hf : OkF m (dnF s) := hs.fr _ (Zbu _ (by omega))
 have e : Zbd m (topF s) = calF m (dnF s) := by unfold Zbd; rw [B.cf]
 refine ⟨hf, hs.fr _ (Zdd hl), open_k hr hf B.op, e, ?_⟩
 unfold Za4
 rw [e, B.cb]; rfl
theorem rb_set (hr : Za6 m = true) (hs : OkM m s) (B : RB m s t) {s' t' : Mach} (h1 : s'.stack = s.stack) (h2 : t'.stack = t.stack) (hd : s'.done = 0) (hT : TellA s' t') (hC : s'.cells = t'.cells) (hI : s'.inputs = t'.inputs) {d v : Int} (d0 : 0 ≤ d ∧ d < (Zbd m (topF s)).regs) :
  RB m (Zbh s' (goOn (frW (topF s) d v))) (Zbh t' (goOn (frW (topF t) (wi (d + (Zbd m (dnF s)).regs)) v))) := by
 have X := B.k hr hs
 have hrg := X.K.rg
 rw [X.fn] at d0
 have hreg := X.hf.regs
 have hregc := X.hc.regs
 rw [X.fn] at hregc
 have a0 := X.hc.a0
 have hO := B.O
 have hlen := hO.len
 rw [wi_add d0.1 (by omega) hrg.2.2.1 (by omega), show d + (Zbd m (dnF s)).regs = (Zbd m (dnF s)).regs + (d.toNat : Int) by omega]
 refine rb_with B h1 h2 hd hT hC hI rfl B.cb ?_ (fun q hq => ?_)
 ·show Op m (dnF s) _ ((calF m (dnF s)).regs.toNat + ((topF s).at_ + 1).toNat)
  rw [show (calF m (dnF s)).regs.toNat + ((topF s).at_ + 1).toNat = (calF m (dnF s)).regs.toNat + (topF s).at_.toNat + 1 by omega]
  exact hO.set hrg.2.2.1 X.hf v
 ·have hq2 : q < (topF s).regs.length := by simpa [goOn, frW] using hq
  show ((topF t).regs.set _ v).getD _ 0 = ((topF s).regs.set _ v).getD q 0
  rw [Zcm, Zcm]
  by_cases e : d.toNat = q
  ·rw [if_pos (by omega), if_pos (by omega)]
  ·rw [if_neg (by omega), if_neg (by omega)]; exact B.ag q hq2
theorem rb_on (hr : Za6 m = true) (hs : OkM m s) (B : RB m s t) {s' t' : Mach} (h1 : s'.stack = s.stack) (h2 : t'.stack = t.stack) (hd : s'.done = 0) (hT : TellA s' t') (hC : s'.cells = t'.cells) (hI : s'.inputs = t'.inputs) :
  RB m (Zbh s' (goOn (topF s))) (Zbh t' (goOn (topF t))) := by
 have X := B.k hr hs
 have a0 := X.hc.a0
 refine rb_with B h1 h2 hd hT hC hI rfl B.cb ?_ B.ag
 show Op m (dnF s) _ ((calF m (dnF s)).regs.toNat + ((topF s).at_ + 1).toNat)
 rw [show (calF m (dnF s)).regs.toNat + ((topF s).at_ + 1).toNat = (calF m (dnF s)).regs.toNat + (topF s).at_.toNat + 1 by omega]
 exact B.O.on
theorem rb_out (hr : Za6 m = true) (hs : OkM m s) (B : RB m s t) (he : endB m (topF s) = true) : RA m (Zb0 m s) (Zb0 (Zat m) t) := by
 have X := B.k hr hs
 have hrg := X.K.rg
 have hfi := X.K.fi
 have hsf := Zdx X.K.sm
 have hln := B.ln
 have hp := B.pos
 have hO := B.O
 have hreg := X.hf.regs
 have hregc := X.hc.regs
 rw [X.fn] at hregc
 have hat : (topF s).at_ = (((calF m (dnF s)).blocks.getD 0 default).ins.length : Nat) := by
  unfold endB at he; rw [decide_eq_true_eq, X.bk] at he; exact he
 have hd2 : t.done = 0 := by rw [← B.tell.dn]; exact B.d
 have hds := X.K.ds
 obtain ⟨he2, hi2⟩ := op_ins hr X.hf B.op hO (by rw [Zez, hat]; omega)
 rw [hat, Int.toNat_natCast, openL_end] at hi2
 have hsN : Zb0 (Zat m) t = Zbh t (goOn (frW (topF t) (Zba m (dnF s)).dst (regA (topF s) ((calF m (dnF s)).blocks.getD 0 default).fin.a))) := by
  rw [step_ins hd2 he2 hi2]
  unfold opEnd
  rw [ins_copy, wi_add hrg.2.2.1 (by omega) hfi.1 (by omega)]
  have := B.ag ((calF m (dnF s)).blocks.getD 0 default).fin.a.toNat (by omega)
  rw [show ((Zbd m (dnF s)).regs + ((calF m (dnF s)).blocks.getD 0 default).fin.a).toNat = (dnF s).regs.length + ((calF m (dnF s)).blocks.getD 0 default).fin.a.toNat by omega, this]; rfl
 have hsM : Zb0 m s = Zbh (popM s) (goOn (frW (dnF s) (Zba m (dnF s)).dst (regA (topF s) ((calF m (dnF s)).blocks.getD 0 default).fin.a))) := by
  rw [show Zb0 m s = Zdf m s (topF s) (Za4 m (topF s)) from if_pos B.d, X.bk]
  unfold Zdf
  rw [he, if_neg (show ¬ (true = false) by decide), if_pos hsf.2.2.2.1]
  unfold Zbp
  rw [if_neg (by omega), top_pop (by omega)]
  unfold answF
  rw [B.op.e, if_neg (by decide)]; rfl
 rw [hsN, hsM]
 generalize hw : regA (topF s) ((calF m (dnF s)).blocks.getD 0 default).fin.a = w
 generalize hf' : goOn (frW (dnF s) (Zba m (dnF s)).dst w) = f'
 generalize hg' : goOn (frW (topF t) (Zba m (dnF s)).dst w) = g'
 have hfg : FrI m f' g' := by
  subst hf' hg'
  have hps := pos_succ X.hf B.op.e
  rw [B.op.z, Zez] at hps
  have a0 := X.hf.a0
  refine ⟨hO.ff, hO.bb, hO.fly, ?_, fun q hq => ?_⟩
  ·show (topF t).at_ + 1 = ((posI m (dnF s) ((dnF s).at_ + 1).toNat : Nat) : Int)
   rw [show ((dnF s).at_ + 1).toNat = (dnF s).at_.toNat + 1 by omega, hps, hO.at_, hat, Int.toNat_natCast]; omega
  ·have hq2 : q < (dnF s).regs.length := by simpa [goOn, frW] using hq
   have := hO.len
   show ((topF t).regs.set _ w).getD q 0 = ((dnF s).regs.set _ w).getD q 0
   rw [Zcm, Zcm]
   by_cases e : (Zba m (dnF s)).dst.toNat = q
   ·rw [if_pos (by omega), if_pos (by omega)]
   ·rw [if_neg (by omega), if_neg (by omega)]; exact hO.ag q hq2
 have hpl := Zcl (s := s)
 have e3 := wth_len (s := popM s) (f := f') (by omega)
 have e4 := wth_len (f := g') hp
 have a1 : ∀ i, i + 1 < t.stack.length → (Zbh (popM s) f').stack.getD i default = s.stack.getD i default := fun i hi => by
  show ((popM s).stack.take _ ++ [f']).getD i default = _
  rw [Zcc, if_pos (by rw [List.length_take]; omega), Zbi _ (by omega)]
  exact Zbi _ (by omega)
 refine ⟨⟨⟨B.tell.ev, B.tell.dn, B.tell.va⟩, B.cells, B.inp, fun _ => ⟨by rw [e3, e4, hpl]; omega, fun i hi => ?_⟩⟩, fun i hi => ?_⟩
 ·rw [e3, hpl] at hi
  by_cases h : i + 1 < t.stack.length
  ·rw [a1 i h]
   have : (Zbh t g').stack.getD i default = t.stack.getD i default := by
    show (List.take _ _ ++ [g']).getD i default = _
    rw [Zcc, if_pos (by rw [List.length_take]; omega), Zbi _ (by omega)]
   rw [this]; exact B.lo i h
  ·have x1 : (Zbh (popM s) f').stack.getD i default = f' := by
    show ((popM s).stack.take _ ++ [f']).getD i default = _
    rw [Zcc, List.length_take, if_neg (by omega), if_pos (by omega)]
   have x2 : (Zbh t g').stack.getD i default = g' := by
    show (List.take _ _ ++ [g']).getD i default = _
    rw [Zcc, List.length_take, if_neg (by omega), if_pos (by omega)]
   rw [x1, x2]; exact hfg
 ·rw [e3, hpl] at hi
  rw [a1 i (by omega)]; exact B.w i (by omega)
end
end Go.Proofs.YtoelbgjpmpoolaaGreat
namespace Go.Proofs.YtoelbgjpmpoolaaGreat
open Go Dv
set_option maxRecDepth 10000
set_option linter.unusedSimpArgs false
set_option linter.unusedVariables false
section
variable {m : Zak} {s t : Mach}
theorem rb_in (hr : Za6 m = true) (hs : OkM m s) (B : RB m s t) (he : endB m (topF s) = false) : RB m (Zb0 m s) (Zb0 (Zat m) t) ∨ ((Zb0 m s).done ≠ 0 ∧ TellA (Zb0 m s) (Zb0 (Zat m) t)) := by
 have X := B.k hr hs
 have hrg := X.K.rg
 have hsf := Zdx X.K.sm
 have hO := B.O
 have hreg := X.hf.regs
 have hregc := X.hc.regs
 have hd2 : t.done = 0 := by rw [← B.tell.dn]; exact B.d
 have hlt := at_lt X.hc he
 have a0 := X.hc.a0
 rw [X.bk] at hlt
 obtain ⟨he2, hi2⟩ := op_ins hr X.hf B.op hO (by rw [Zez]; omega)
 rw [openL_in hlt] at hi2
 have hy : ((calF m (dnF s)).blocks.getD 0 default).ins.getD (topF s).at_.toNat default = Zba m (topF s) := by unfold Zba; rw [X.bk]
 have h11 : (Zba m (topF s)).op ≠ 11 := by rw [← hy]; exact hsf.2.2.2.2 _ hlt
 rw [hy] at hi2
 have hI := (okF_ins hr X.hc he).2
 rw [step_ins B.d he rfl, step_ins hd2 he2 hi2]
 have setW := fun (s' t' : Mach) h1 h2 hd hT hC hI d v d0 => rb_set (d := d) (v := v) (s' := s') (t' := t') hr hs B h1 h2 hd hT hC hI d0
 have onW := fun (s' t' : Mach) h1 h2 hd hT hC hI => rb_on (s' := s') (t' := t') hr hs B h1 h2 hd hT hC hI
 have hfn := X.fn
 have same : ∀ p : Int, inn p (Zbd m (topF s)).regs = true → (topF t).regs.getD (wi (p + (Zbd m (dnF s)).regs)).toNat 0 = (topF s).regs.getD p.toNat 0 := fun p hp => by
  have := (Zab _ _).1 hp
  rw [hfn] at this
  rw [wi_add this.1 (by omega) hrg.2.2.1 (by omega)]
  have := B.ag p.toNat (by rw [hfn] at hregc; omega)
  rw [show (p + (Zbd m (dnF s)).regs).toNat = (dnF s).regs.length + p.toNat by omega]; exact this
 have e1 : (mv1 (Zba m (topF s)) (Zbd m (dnF s)).regs).op = (Zba m (topF s)).op := rfl
 have e2 : (mv1 (Zba m (topF s)) (Zbd m (dnF s)).regs).k = (Zba m (topF s)).k := rfl
 have e3 : (Zba m (topF s)).op ≠ 10 → (Zba m (topF s)).op ≠ 12 → (mv1 (Zba m (topF s)) (Zbd m (dnF s)).regs).dst = wi ((Zba m (topF s)).dst + (Zbd m (dnF s)).regs) := fun h1 h2 => by
  show (if _ then _ else _) = _
  rw [if_pos ⟨h1, h2⟩]
 have e4 : (Zba m (topF s)).op ≠ 1 → (Zba m (topF s)).op ≠ 13 → (mv1 (Zba m (topF s)) (Zbd m (dnF s)).regs).a = wi ((Zba m (topF s)).a + (Zbd m (dnF s)).regs) := fun h1 h2 => by
  show (if _ then _ else _) = _
  rw [if_pos ⟨h1, h2⟩]
 have e5 : (Zba m (topF s)).op ≠ 1 → (Zba m (topF s)).op ≠ 13 → (Zba m (topF s)).op ≠ 2 → (Zba m (topF s)).op ≠ 9 → (Zba m (topF s)).op ≠ 12 → (mv1 (Zba m (topF s)) (Zbd m (dnF s)).regs).b = wi ((Zba m (topF s)).b + (Zbd m (dnF s)).regs) := fun h1 h2 h3 h4 h5 => by
  show (if _ then _ else _) = _
  rw [if_pos ⟨h1, h2, h3, h4, h5⟩]
 have hT := B.tell
 have hC := B.cells
 have hN := B.inp
 have hd := B.d
 have ends : ∀ (how w : Int), how ≠ 0 → (endM s how w).done ≠ 0 ∧ TellA (endM s how w) (endM t how w) := fun how w h => ⟨h, hT.ev, rfl, rfl⟩
 generalize mv1 (Zba m (topF s)) (Zbd m (dnF s)).regs = y at e1 e2 e3 e4 e5
 generalize Zba m (topF s) = x at h11 hI e1 e2 e3 e4 e5
 unfold insM
 rw [e1, if_neg h11, if_neg h11]
 by_cases h8 : x.op ≤ 8
 ·rw [if_pos h8, if_pos h8]
  have hdst : inn x.dst (Zbd m (topF s)).regs = true := by
   rcases hI with h | h | h | h | h | h | h <;> first | omega | exact h.2.1
  have hv : reckV (topF t) y = reckV (topF s) x := by
   unfold reckV
   rw [e1, e2]
   by_cases h1 : x.op = 1
   ·rw [if_pos h1, if_pos h1]
   ·rw [if_neg h1, if_neg h1]
    by_cases h2 : x.op = 2
    ·have ha : inn x.a (Zbd m (topF s)).regs = true := by
      rcases hI with h | h | h | h | h | h | h <;> first | omega | exact h.2.2.1
     rw [if_neg (by omega), if_neg (by omega), e4 h1 (by omega), same _ ha]
    ·have hab : inn x.a (Zbd m (topF s)).regs = true ∧ inn x.b (Zbd m (topF s)).regs = true := by
      rcases hI with h | h | h | h | h | h | h <;> first | omega | exact ⟨h.2.2.1, h.2.2.2.1⟩
     rw [e4 h1 (by omega), e5 h1 (by omega) h2 (by omega) (by omega), same _ hab.1, same _ hab.2]
  unfold reckR
  rw [hv]
  by_cases hok : (reckV (topF s) x).2 = true
  ·rw [if_pos hok, if_pos hok, if_pos rfl, if_pos rfl, e3 (by omega) (by omega)]
   exact .inl (setW s t rfl rfl hd hT hC hN x.dst _ ((Zab _ _).1 hdst))
  ·rw [if_neg hok, if_neg hok, if_neg (show ¬ ((topF s, false).2 = true) from Bool.noConfusion), if_neg (show ¬ ((topF t, false).2 = true) from Bool.noConfusion)]
   exact .inr (ends 3 0 (by decide))
 rw [if_neg h8, if_neg h8]
 by_cases h9 : x.op = 9
 ·rw [if_pos h9, if_pos h9]
  have ha : inn x.dst (Zbd m (topF s)).regs = true ∧ inn x.a (Zbd m (topF s)).regs = true := by
   rcases hI with h | h | h | h | h | h | h <;> first | omega | exact ⟨h.2.1, h.2.2.1⟩
  unfold cellN
  rw [e3 (by omega) (by omega), e4 (by omega) (by omega), same _ ha.2, ← hC]
  split
  ·exact .inr (ends 4 0 (by decide))
  ·exact .inl (setW s t rfl rfl hd hT hC hN x.dst _ ((Zab _ _).1 ha.1))
 rw [if_neg h9, if_neg h9]
 by_cases h10 : x.op = 10
 ·rw [if_pos h10, if_pos h10]
  have hab : inn x.a (Zbd m (topF s)).regs = true ∧ inn x.b (Zbd m (topF s)).regs = true := by
   rcases hI with h | h | h | h | h | h | h <;> first | omega | exact ⟨h.2.2.1, h.2.2.2.1⟩
  unfold cellN
  rw [e4 (by omega) (by omega), e5 (by omega) (by omega) (by omega) (by omega) (by omega), same _ hab.1, same _ hab.2, ← hC]
  split
  ·exact .inr (ends 4 0 (by decide))
  ·exact .inl (onW { s with cells := s.cells.set ((topF s).regs.getD x.a.toNat 0).toNat ((topF s).regs.getD x.b.toNat 0) } { t with cells := s.cells.set ((topF s).regs.getD x.a.toNat 0).toNat ((topF s).regs.getD x.b.toNat 0) } rfl rfl hd ⟨hT.ev, hT.dn, hT.va⟩ rfl hN)
 rw [if_neg h10, if_neg h10]
 by_cases h12 : x.op = 12
 ·rw [if_pos h12, if_pos h12]
  have ha : inn x.a (Zbd m (topF s)).regs = true := by
   rcases hI with h | h | h | h | h | h | h <;> first | omega | exact h.2.2.1
  rw [e4 (by omega) (by omega), same _ ha, ← hT.ev]
  exact .inl (onW { s with events := s.events ++ [(topF s).regs.getD x.a.toNat 0] } { t with events := s.events ++ [(topF s).regs.getD x.a.toNat 0] } rfl rfl hd ⟨rfl, hT.dn, hT.va⟩ hC hN)
 rw [if_neg h12, if_neg h12]
 by_cases h13 : x.op = 13
 ·have hdst : inn x.dst (Zbd m (topF s)).regs = true := by
   rcases hI with h | h | h | h | h | h | h <;> first | omega | exact h.2.1
  rw [if_pos h13, if_pos h13, e3 (by omega) (by omega), ← hN, ← hT.ev]
  split
  ·exact .inr (ends 6 0 (by decide))
  ·exact .inl (setW { s with inputs := s.inputs.drop 1, events := s.events ++ [s.inputs.getD 0 0 + 65536] } { t with inputs := s.inputs.drop 1, events := s.events ++ [s.inputs.getD 0 0 + 65536] } rfl rfl hd ⟨rfl, hT.dn, hT.va⟩ hC rfl x.dst _ ((Zab _ _).1 hdst))
 ·exfalso
  rcases hI with h | h | h | h | h | h | h <;> omega
def SimI (m : Zak) (s t : Mach) : Prop := RA m s t ∨ RB m s t ∨ (s.done = 5 ∧ s.events = t.events) ∨ (s.done ≠ 0 ∧ TellA s t)
theorem sim_inl (hr : Za6 m = true) {inputs : List Int} (hi : (∀ x ∈ inputs, 0 ≤ x ∧ x ≤ 65535) ∧ inputs.length < 1000000) : ∀ i, ∃ j, j ≤ i * 20 ∧ SimI m (runM m inputs i) (runM (Zat m) inputs j) := by
 refine sim_of (R := SimI m) ?_ (fun i j hR hd => ?_)
 ·refine .inl ⟨⟨⟨rfl, rfl, rfl⟩, rfl, rfl, fun _ => ⟨rfl, fun i hi => ?_⟩⟩, fun i hi => ?_⟩
  ·have : i = 0 := by have h : i < 1 := hi; omega
   subst this
   exact fr_new hr (by omega) (by have := (right0 hr).1; omega) []
  ·exact absurd (show i + 1 < 1 from hi) (by omega)
 ·have hs := okM_run hr hi i
  have ht := okM_run (right_inline hr) hi j
  rcases hR with R | B | h | h
  ·cases he : endB m (topF (runM m inputs i)) with
   | true => exact ⟨1, by omega, .inl (stepA_end hr hs ht R hd he)⟩
   | false =>
    rcases open_of he with hz | hO
    ·exact ⟨1, by omega, .inl (stepA_ins hr hs ht R hd he hz)⟩
    ·obtain ⟨d, h1, h2⟩ := call_open hr hs ht R hd hO
     exact ⟨d, h1, h2.elim (fun h => .inr (.inl h)) (fun h => .inr (.inr (.inl h)))⟩
  ·cases he : endB m (topF (runM m inputs i)) with
   | true => exact ⟨1, by omega, .inl (rb_out hr hs B he)⟩
   | false => exact ⟨1, by omega, (rb_in hr hs B he).elim (fun h => .inr (.inl h)) (fun h => .inr (.inr (.inr h)))⟩
  ·omega
  ·exact absurd hd h.1
theorem inl_alike (hr : Za6 m = true) {inputs : List Int} (hi : (∀ x ∈ inputs, 0 ≤ x ∧ x ≤ 65535) ∧ inputs.length < 1000000) (i : Nat) : ∃ j, j ≤ i * 20 ∧ (runM m inputs i).events = (runM (Zat m) inputs j).events ∧ ((runM m inputs i).done ≠ 5 → TellA (runM m inputs i) (runM (Zat m) inputs j)) := by
 obtain ⟨j, hj, h⟩ := sim_inl hr hi i
 refine ⟨j, hj, ?_⟩
 rcases h with R | B | h | h
 ·exact ⟨R.r.tell.ev, fun _ => R.r.tell⟩
 ·exact ⟨B.tell.ev, fun _ => B.tell⟩
 ·exact ⟨h.2, fun e => absurd h.1 e⟩
 ·exact ⟨h.2.ev, fun _ => h.2⟩
end
def alkB (s t : Mach) : Bool :=
 bif decide (s.done = 5) || decide (t.done = 5) then begB s.events t.events || begB t.events s.events else
 bif decide (s.done ≠ 0) && decide (t.done ≠ 0) then toldB s t else
 (decide (s.done = 0) || begB t.events s.events) && ((decide (t.done = 0) || begB s.events t.events) && (begB s.events t.events || begB t.events s.events))
section
variable {a b : Zak} {inputs : List Int}
abbrev Alk (a b : Zak) (inputs : List Int) (k : Nat) : Prop := ∀ i, ∃ j, j ≤ i * k ∧ (runM a inputs i).events = (runM b inputs j).events ∧ ((runM a inputs i).done ≠ 5 → TellA (runM a inputs i) (runM b inputs j))
theorem alk_of {k : Nat} (h : Alk a b inputs k) (i n : Nat) : alkB (runM a inputs i) (runM b inputs n) = true := by
 obtain ⟨j, hj, he, ht⟩ := h i
 have hcmp : (begB (runM a inputs i).events (runM b inputs n).events || begB (runM b inputs n).events (runM a inputs i).events) = true := by
  rw [Bool.or_eq_true, he]
  rcases Nat.le_total j n with h | h
  ·exact .inl (beg_of (run_le h))
  ·exact .inr (beg_of (run_le h))
 unfold alkB
 by_cases h5 : (runM a inputs i).done = 5 ∨ (runM b inputs n).done = 5
 ·rw [show (decide ((runM a inputs i).done = 5) || decide ((runM b inputs n).done = 5)) = true by rcases h5 with e | e <;> simp [e], cond_true]
  exact hcmp
 have n1 : ¬ (runM a inputs i).done = 5 := fun e => h5 (.inl e)
 have n2 : ¬ (runM b inputs n).done = 5 := fun e => h5 (.inr e)
 have hT := ht n1
 rw [show (decide ((runM a inputs i).done = 5) || decide ((runM b inputs n).done = 5)) = false by simp [n1, n2], cond_false]
 by_cases h0 : (runM a inputs i).done = 0
 ·rw [show decide ((runM a inputs i).done ≠ 0) = false by simp [h0], Bool.false_and, cond_false, decide_eq_true h0, Bool.true_or, Bool.true_and, hcmp, Bool.and_true, Bool.or_eq_true, decide_eq_true_eq, he]
  by_cases h2 : (runM b inputs n).done = 0
  ·exact .inl h2
  ·refine .inr (beg_of (run_le ?_))
   refine Classical.byContradiction fun hc => ?_
   have := run_end (m := b) (inputs := inputs) (show n ≤ j by omega) h2
   rw [← this, ← hT.dn] at h2
   exact h2 h0
 ·have hj0 : ¬ (runM b inputs j).done = 0 := by rw [← hT.dn]; exact h0
  rw [decide_eq_true (show (runM a inputs i).done ≠ 0 from h0), Bool.true_and]
  by_cases h2 : (runM b inputs n).done = 0
  ·rw [show decide ((runM b inputs n).done ≠ 0) = false by simp [h2], cond_false, decide_eq_false h0, Bool.false_or, decide_eq_true h2, Bool.true_or, Bool.true_and, hcmp, Bool.and_true, he]
   refine beg_of (run_le ?_)
   refine Classical.byContradiction fun hc => ?_
   have := run_end (m := b) (inputs := inputs) (show j ≤ n by omega) hj0
   rw [this] at h2
   exact hj0 h2
  ·rw [decide_eq_true (show (runM b inputs n).done ≠ 0 from h2), cond_true]
   have h6 : runM b inputs j = runM b inputs n := by
    rcases Nat.le_total j n with e | e
    ·exact (run_end e hj0).symm
    ·exact run_end e h2
   rw [← h6]
   exact told_of hT
theorem alk_told {k : Nat} (h : Alk a b inputs k) (i : Nat) (h0 : ¬ (runM a inputs i).done = 0) (h5 : ¬ (runM a inputs i).done = 5) : toldB (runM a inputs i) (runM b inputs (i * k)) = true := by
 obtain ⟨j, hj, he, ht⟩ := h i
 have hT := ht h5
 rw [run_end hj (by rw [← hT.dn]; exact h0)]
 exact told_of hT
theorem alk_beg {k : Nat} (h : Alk a b inputs k) (i : Nat) : begB (runM a inputs i).events (runM b inputs (i * k)).events = true := by
 obtain ⟨j, hj, he, ht⟩ := h i
 rw [he]
 exact beg_of (run_le hj)
end
end Go.Proofs.YtoelbgjpmpoolaaGreat
namespace Go.Proofs.YtoelbgjpmpoolaaGreat
open Go Dv
set_option maxRecDepth 10000
set_option linter.unusedSimpArgs false
end Go.Proofs.YtoelbgjpmpoolaaGreat
namespace Go.Proofs.YtoelbgjpmpoolaaGreat
open Go Dv Go.ChangeShapes Go.WideShapes Go.ChangeAt Go.RowKit
open Go.Proofs.YtoelbgjpmpoolaaGreat
set_option maxRecDepth 10000
set_option linter.unusedVariables false
section
variable {H : Type} {enc : TypeId × Value → H} {w : World}
abbrev Sm (H : Type) : DataW H → Prop := fun d => Rows.uptoBulk d ≤ 1048576
theorem bulk_all {ds : List (DataW H)} {n : Nat} (h : Rows.uptoBulkAll ds ≤ n) : ∀ d ∈ ds, Rows.uptoBulk d ≤ n := by
 induction ds with
 | nil => intro d hd; cases hd
 | cons x r ih =>
  simp only [Rows.uptoBulkAll] at h
  intro d hd
  simp only [List.mem_cons] at hd
  rcases hd with rfl | hd
  ·omega
  ·exact ih (by omega) d hd
theorem bulk_pos (d : DataW H) : 1 ≤ Rows.uptoBulk d := by
 cases d with
 | lit l => cases l <;> simp only [Rows.uptoBulk] <;> omega
 | _ => simp only [Rows.uptoBulk]; omega
theorem bulk_len {ds : List (DataW H)} {n : Nat} (h : Rows.uptoBulkAll ds ≤ n) : ds.length ≤ n := by
 induction ds generalizing n with
 | nil => simp
 | cons x r ih =>
  simp only [Rows.uptoBulkAll] at h
  have := bulk_pos x
  have := ih (n := n - Rows.uptoBulk x) (by omega)
  simp only [List.length_cons]; omega
theorem sm_agg (ds : List (DataW H)) (h : Sm H (.agg ds)) : ∀ d ∈ ds, Sm H d := by
 simp only [Sm, Rows.uptoBulk] at h; exact bulk_all (by omega)
theorem sm_slice (es sp : List (DataW H)) (h : Sm H (.slice es sp)) : es.length ≤ mL ∧ ∀ x ∈ es, Sm H x := by
 simp only [Sm, Rows.uptoBulk] at h
 have h1 : Rows.uptoBulkAll es ≤ 1048576 := by omega
 exact ⟨Nat.le_trans (bulk_len h1) (by decide), bulk_all h1⟩
theorem Zd3 : Rd enc Tryz.prog w (Sm H) 3 Int (fun n => [iv n]) := Rd.int Tryz.underlying3
theorem rd_u16 : Rd enc Tryz.prog w (Sm H) 50 Int (fun n => [.int .u16 n]) := Rd.int Tryz.underlying50
theorem rd_bool : Rd enc Tryz.prog w (Sm H) 4 Bool (fun b => [.bool b]) := Rd.bool Tryz.underlying4
theorem rd_ints : Rd enc Tryz.prog w (Sm H) 42 (List Int) (fun l => [ints l]) := Rd.slice Tryz.underlying42 (by decide +kernel) (Nat.le_refl _) (fun _ => ⟨rfl, rfl⟩) Zd3 sm_slice
theorem rd_u16s : Rd enc Tryz.prog w (Sm H) 25 (List Int) (fun l => [u16s l]) := Rd.slice Tryz.underlying25 (by decide +kernel) (Nat.le_refl _) (fun _ => ⟨rfl, rfl⟩) rd_u16 sm_slice
theorem rd_Ins : Rd enc Tryz.prog w (Sm H) 70 Ins Zax :=
 Rd.map (fun x => ⟨x.1, x.2.1, x.2.2.1, x.2.2.2.1, x.2.2.2.2.1, x.2.2.2.2.2.1, x.2.2.2.2.2.2.1⟩)
  (Rd.struct (fl := [(3, 1), (3, 1), (3, 1), (3, 1), (50, 1), (3, 1), (42, 1)]) Tryz.underlying70 (.cons Zd3 (.cons Zd3 (.cons Zd3 (.cons Zd3 (.cons rd_u16 (.cons Zd3 (.cons rd_ints .nil)))))))
   rfl (by decide +kernel) (by decide +kernel) sm_agg) (fun _ => rfl)
theorem rd_inss : Rd enc Tryz.prog w (Sm H) 41 (List Ins) (fun l => [inss l]) := Rd.slice Tryz.underlying41 (by decide +kernel) (by decide) (fun _ => ⟨rfl, rfl⟩) rd_Ins sm_slice
theorem rd_End : Rd enc Tryz.prog w (Sm H) 44 End Zdi :=
 Rd.map (fun x => ⟨x.1, x.2.1, x.2.2.1, x.2.2.2.1, x.2.2.2.2.1, x.2.2.2.2.2.1, x.2.2.2.2.2.2.1, x.2.2.2.2.2.2.2.1⟩)
  (Rd.struct (fl := [(3, 1), (3, 1), (3, 1), (3, 1), (42, 1), (3, 1), (3, 1), (3, 1)]) Tryz.underlying44 (.cons Zd3 (.cons Zd3 (.cons Zd3 (.cons Zd3 (.cons rd_ints (.cons Zd3 (.cons Zd3 (.cons Zd3 .nil))))))))
   rfl (by decide +kernel) (by decide +kernel) sm_agg) (fun _ => rfl)
theorem rd_Pad : Rd enc Tryz.prog w (Sm H) 40 Pad Zc1 :=
 Rd.map (fun x => ⟨x.1, x.2.1, x.2.2.1, x.2.2.2.1⟩)
  (Rd.struct (fl := [(3, 1), (25, 1), (4, 1), (4, 1)]) Tryz.underlying40 (.cons Zd3 (.cons rd_u16s (.cons rd_bool (.cons rd_bool .nil))))
   rfl (by decide +kernel) (by decide +kernel) sm_agg) (fun _ => rfl)
theorem rd_Block : Rd enc Tryz.prog w (Sm H) 46 Zbs Zbg :=
 Rd.map (fun x => ⟨x.1, x.2.1, x.2.2.1, x.2.2.2.1⟩)
  (Rd.struct (fl := [(4, 1), (40, 4), (41, 1), (44, 8)]) Tryz.underlying46 (.cons rd_bool (.cons rd_Pad (.cons rd_inss (.cons rd_End .nil))))
   rfl (by decide +kernel) (by decide +kernel) sm_agg) (fun _ => rfl)
theorem rd_blocks : Rd enc Tryz.prog w (Sm H) 36 (List Zbs) (fun l => [Zd2 l]) := Rd.slice Tryz.underlying36 (by decide +kernel) (by decide) (fun _ => ⟨rfl, rfl⟩) rd_Block sm_slice
theorem rd_Func : Rd enc Tryz.prog w (Sm H) 38 Func Za1 :=
 Rd.map (fun x => ⟨x.1, x.2.1, x.2.2.1⟩)
  (Rd.struct (fl := [(3, 1), (3, 1), (36, 1)]) Tryz.underlying38 (.cons Zd3 (.cons Zd3 (.cons rd_blocks .nil)))
   rfl (by decide +kernel) (by decide +kernel) sm_agg) (fun _ => rfl)
theorem rd_funcs : Rd enc Tryz.prog w (Sm H) 22 (List Func) (fun l => [funcss l]) := Rd.slice Tryz.underlying22 (by decide +kernel) (by decide) (fun _ => ⟨rfl, rfl⟩) rd_Func sm_slice
theorem rd_Module : Rd enc Tryz.prog w (Sm H) 24 Zak Zao :=
 Rd.map (fun x => ⟨x.1⟩)
  (Rd.struct (fl := [(22, 1)]) Tryz.underlying24 (.cons rd_funcs .nil)
   rfl (by decide +kernel) (by decide +kernel) sm_agg) (fun _ => rfl)
end
theorem small_of {H : Type} {ds gs : List (DataW H)} (hk : Rows.uptoSmall H (ds ++ gs) = true) : ∀ d ∈ ds, Sm H d := by
 have h := of_decide_eq_true hk
 exact fun d hd => bulk_all h d (List.mem_append_left _ hd)
end Go.Proofs.YtoelbgjpmpoolaaGreat
namespace Go.Proofs.YtoelbgjpmpoolaaGreat
open Go Dv
set_option maxRecDepth 10000
set_option linter.unusedSimpArgs false
structure Iv2 (len : Nat) (D : Nat → List Bool → Bool) (is : List Bool) (n : Nat) (js : List Bool) : Prop where
 sz : js.length = len
 be : Zfu len D js
 le : leL is js
 don : ∀ j, j < n → D j is = true → js.getD j false = true
theorem Iv2.set {len : Nat} {D : Nat → List Bool → Bool} {is js : List Bool} {n m : Nat} (h : Iv2 len D is n js) (hD : MonoD D) (hm : m < len) (hd : D m js = true) : Iv2 len D is n (js.set m true) := by
 have hs := h.sz
 refine ⟨by simp [hs], fun c hc i e => ?_, h.le.trans (leL_set _ _), fun j hj hd => leL_set _ _ j (h.don j hj hd)⟩
 rw [set_get (by omega), Bool.or_eq_true] at e
 rcases e with e | e
 ·have : m = i := by simpa using e
  subst this
  exact hc.cl m hm (hD m js c (h.be c hc) hd)
 ·exact h.be c hc i e
structure Iv0 (len : Nat) (D : Nat → List Bool → Bool) (r : Nat) (is : List Bool) : Prop where
 sz : is.length = len
 be : Zfu len D is
 pr : Closed len D is ∨ r ≤ cnt is
theorem Iv0.next {len : Nat} {D : Nat → List Bool → Bool} {is js : List Bool} {r : Nat} (h0 : Iv0 len D r is) (h : Iv2 len D is len js) : Iv0 len D (r + 1) js := by
 refine ⟨h.sz, h.be, ?_⟩
 obtain ⟨h1, h2⟩ := cnt_mono (by rw [h0.sz, h.sz]) h.le
 by_cases hc : cnt js ≤ cnt is
 ·have e := h2 hc
  left
  refine ⟨h.sz, fun n hn hd => ?_⟩
  exact h.don n hn (by rw [e]; exact hd)
 ·rcases h0.pr with hcl | hcl
  ·exfalso
   have e1 := h.be is hcl
   have := (cnt_mono (by rw [h0.sz, h.sz]) e1).1
   omega
  ·right; omega
theorem Iv0.done {len : Nat} {D : Nat → List Bool → Bool} (hD : MonoD D) {is : List Bool} (h0 : Iv0 len D (len + 1) is) : is = lfp len D := by
 refine lfp_uniq hD ?_ h0.be
 rcases h0.pr with h | h
 ·exact h
 ·have := cnt_le (a := is); rw [h0.sz] at this; omega
end Go.Proofs.YtoelbgjpmpoolaaGreat
namespace Go.Proofs.YtoelbgjpmpoolaaGreat
open Go Dv
set_option maxRecDepth 10000
set_option linter.unusedSimpArgs false
def nilPad : Pad := ⟨0, [], false, false⟩
set_option linter.unusedSimpArgs false
def retEnd : End := ⟨1, 0, 0, 0, [], 0, 0, 0⟩
def awI : Zak := ⟨[⟨0, 3, [⟨false, nilPad, [⟨11, 0, 0, 0, 0, 1, [2]⟩], retEnd⟩]⟩, ⟨1, 2, [⟨false, nilPad, [⟨1, 1, 0, 0, 1, 0, []⟩, ⟨3, 0, 0, 1, 0, 0, []⟩], retEnd⟩]⟩]⟩
def awIF : Func := ⟨0, 5, [⟨false, nilPad, [⟨2, 3, 2, 0, 0, 0, []⟩, ⟨1, 4, 0, 0, 0, 0, []⟩, ⟨1, 4, 0, 0, 1, 0, []⟩, ⟨3, 3, 3, 4, 0, 0, []⟩, ⟨2, 0, 3, 0, 0, 0, []⟩], retEnd⟩]⟩
def awIG : Func := ⟨1, 2, [⟨false, nilPad, [⟨1, 1, 0, 0, 1, 0, []⟩, ⟨3, 0, 0, 1, 0, 0, []⟩], retEnd⟩]⟩
set_option maxHeartbeats 2000000 in
theorem c_awake23 : FC Tryz.prog 21 [] (.bool true) := by
 refine Zan tok Tryz.func21 rfl (by decide +kernel) (nB rfl) ?_
 (repeat' ((fail_if_success (show Rg 3)); first | refine Zad ?_ | (refine Zaa tok (by rfl) ?_; conv => whnf)))
 refine Zaz (Weak.fam (tl := [(2, .bp (2, 0, 0) 0)]) (hl := [((2, 0, 0), .row true 1 1 (fun _ => Zao awI))]) (F := noH) [] rfl (fun i hi => by cases hi) (.cons (.bp rfl rfl) .nil) (.old rfl rfl (GB.one ?_ (fun _ => rfl)) .nil) noF (fun i hi => by cases hi)) ?_
 ·(repeat' first | exact GVs.nil | exact lt0 | refine ltS ?_ ?_ | ((conv => arg 4; whnf); (conv => arg 5; whnf); first | refine GVs.cons (GV.imm rfl) ?_ | refine GVs.cons (GV.wk rfl (.nsl rfl)) ?_ | refine GVs.cons (GV.frz (hd_no rfl) rfl (nB rfl) rfl ?_ ?_) ?_) | exact (show Zb6 _ = true from rfl))
 have h1 : FC Tryz.prog 22 [.agg (Zao awI)] (.tup [.agg (Zao ⟨[awIF, awIG]⟩), iv 0]) := by
  have := c_iModule awI
  rw [show Zat awI = ⟨[awIF, awIG]⟩ from by decide +kernel, show errM awI = 0 from by decide +kernel] at this; exact this
 have h2 : FC Tryz.prog 59 [.agg (Zao awI), iv 0] (.agg (Za1 awIF)) := by
  have := c_iFunc awI 0
  rw [show funcI awI 0 = awIF from by decide +kernel] at this; exact this
 have h3 : FC Tryz.prog 54 [.agg (Za1 awIF), .agg (Za1 awIF)] (.bool true) := by
  have := c_rSameFunc awIF awIF
  rw [show decide (awIF = awIF) = true from by decide +kernel] at this; exact this
 have h4 : FC Tryz.prog 60 [.agg (Za1 awIG)] (.bool true) := by
  have := c_Small awIG
  rw [show smallF awIG = true from by decide +kernel] at this; exact this
 have e1 : awIF.blocks.length = 1 := rfl
 have e2 : (awIF.blocks.getD (Int.toNat 0) default).ins.length = 5 := rfl
 have e3 : ([awIF, awIG] : List Func).length = 2 := rfl
 have e4 : awI.funcs.length = 2 := rfl
 (repeat' (refine Zaa tok (by rfl) ?_; conv => whnf))
 refine .inl ⟨_, _, _, uG (QC.fc h1 rfl), ?_⟩
 conv => whnf
 (repeat' first | refine Zad ?_ | (refine Zaa tok (by rfl) ?_; conv => whnf))
 refine .inl ⟨_, _, _, uG (QC.fc h2 rfl), ?_⟩
 conv => whnf
 ((repeat' first | refine Zad ?_ | (refine Zaa tok (by rfl) ?_; conv => whnf) | (refine Za2 tok mix (by rfl) ?_; conv => whnf) | (refine Zag ?_; conv => whnf) | (refine Zah ?_; conv => whnf) | refine Zaf rfl (fun hb => ?_) (fun hb => ?_) | (refine uA ?_ ?_; rotate_left; (conv => whnf); rotate_right)); all_goals (try ((guard_target = Zac _ _ _ _); ((refine Za7 ?_; intro hgd; (conv at hgd => whnf); (try simp (disch := omega) only [Zal] at hgd))); (all_goals (try simp only [Zac, kZ, kA, kB, mL, Zab] at *)); all_goals omega)))
 ·simp at hb
 clear hb
 refine .inl ⟨_, _, _, uG (QC.fc h3 rfl), ?_⟩
 conv => whnf
 ((repeat' (refine uA ?_ ?_; rotate_left; (conv => whnf); rotate_right)); all_goals (try ((guard_target = Zac _ _ _ _); ((refine Za7 ?_; intro hgd; (conv at hgd => whnf); (try simp (disch := omega) only [Zal] at hgd))); (all_goals (try simp only [Zac, kZ, kA, kB, mL, Zab] at *)); all_goals omega)))
 refine .inl ⟨_, _, _, uG (QC.fc h4 rfl), ?_⟩
 conv => whnf
 (repeat' (refine Zah ?_; conv => whnf))
 exact ⟨_, rfl, Rel.bool rfl⟩
end Go.Proofs.YtoelbgjpmpoolaaGreat
namespace Go.Proofs.YtoelbgjpmpoolaaGreat
open Go Dv
set_option maxRecDepth 10000
set_option linter.unusedSimpArgs false
set_option maxHeartbeats 4000000 in
theorem c_Alike (s t : Mach) : FC Tryz.prog 24 [.agg (Zar s), .agg (Zar t)] (.bool (alkB s t)) := by
 refine Zan tok Tryz.func24 rfl (by decide +kernel) (nB rfl) ?_
 (repeat' ((fail_if_success (show Rg 2)); (fail_if_success (show Rg 3)); first | refine Zad ?_ | (refine Zaa tok (by rfl) ?_; conv => whnf) | (refine Zag ?_; conv => whnf) | refine Zaf rfl (fun hb => ?_) (fun hb => ?_)))
 ·have h5 : (decide (s.done = 5) || decide (t.done = 5)) = true := by
   cases e1 : decide (s.done = 5) <;> cases e2 : decide (t.done = 5) <;> simp_all
  rw [show alkB s t = (begB s.events t.events || begB t.events s.events) from by unfold alkB; rw [h5]; rfl]
  (repeat' (refine Zaa tok (by rfl) ?_; conv => whnf))
  refine .inl ⟨_, _, _, uG (QC.fc (Zfs s.events t.events) rfl), ?_⟩
  conv => whnf
  skip
  refine .inl ⟨_, _, _, uG (QC.fc (Zfs t.events s.events) rfl), ?_⟩
  conv => whnf
  (repeat' (refine Zah ?_; conv => whnf))
  refine ⟨_, rfl, Rel.bool ?_⟩
  cases begB s.events t.events <;> cases begB t.events s.events <;> rfl
 have h5 : (decide (s.done = 5) || decide (t.done = 5)) = false := by
  cases e1 : decide (s.done = 5) <;> cases e2 : decide (t.done = 5) <;> simp_all
 clear hb
 rw [show alkB s t = bif decide (s.done ≠ 0) && decide (t.done ≠ 0) then toldB s t else
  (decide (s.done = 0) || begB t.events s.events) && ((decide (t.done = 0) || begB s.events t.events) && (begB s.events t.events || begB t.events s.events)) from by unfold alkB; rw [h5]; rfl]
 (repeat' ((fail_if_success (show Rg 4)); (fail_if_success (show Rg 5)); first | refine Zad ?_ | (refine Zaa tok (by rfl) ?_; conv => whnf) | (refine Zag ?_; conv => whnf) | refine Zaf rfl (fun hb => ?_) (fun hb => ?_)))
 ·have hd2 : (decide (s.done ≠ 0) && decide (t.done ≠ 0)) = true := by
   cases e1 : decide (s.done ≠ 0) <;> cases e2 : decide (t.done ≠ 0) <;> simp_all
  rw [hd2]
  (repeat' (refine Zaa tok (by rfl) ?_; conv => whnf))
  refine .inl ⟨_, _, _, uG (QC.fc (c_Told s t) rfl), ?_⟩
  conv => whnf
  (repeat' (refine Zah ?_; conv => whnf))
  exact ⟨_, rfl, Rel.bool rfl⟩
 have hd2 : (decide (s.done ≠ 0) && decide (t.done ≠ 0)) = false := by
  cases e1 : decide (s.done ≠ 0) <;> cases e2 : decide (t.done ≠ 0) <;> simp_all
 rw [hd2]
 clear hb
 (repeat' (refine Zaa tok (by rfl) ?_; conv => whnf))
 refine .inl ⟨_, _, _, uG (QC.fc (Zfs t.events s.events) rfl), ?_⟩
 conv => whnf
 skip
 refine .inl ⟨_, _, _, uG (QC.fc (Zfs s.events t.events) rfl), ?_⟩
 conv => whnf
 skip
 refine .inl ⟨_, _, _, uG (QC.fc (Zfs s.events t.events) rfl), ?_⟩
 conv => whnf
 skip
 refine .inl ⟨_, _, _, uG (QC.fc (Zfs t.events s.events) rfl), ?_⟩
 conv => whnf
 (repeat' (refine Zah ?_; conv => whnf))
 refine ⟨_, rfl, Rel.bool ?_⟩
 rw [cond_false]
 cases begB s.events t.events <;> cases begB t.events s.events <;> cases decide (s.done = 0) <;> cases decide (t.done = 0) <;> rfl
set_option maxHeartbeats 4000000 in
theorem c_InlineKeeps (m : Zak) (inputs : List Int) (fuel : Int) : FC Tryz.prog 4 [.agg (Zao m), u16s inputs, .int .u8 fuel] (.bool true) := by
 refine Zan tok Tryz.func4 rfl (by decide +kernel) (nB rfl) ?_
 refine Zap 1 (fun hl => ?_)
 have hwords : ∀ x ∈ inputs, 0 ≤ x ∧ x ≤ 65535 := fun x hx => by
  obtain ⟨i, hi, rfl⟩ := List.getElem_of_mem hx
  have := (hl.2 i hi).1
  rw [Zbl 0 hi] at this; exact this
 clear hl
 refine Zap 2 (fun hl => ?_)
 have hf0 : 0 ≤ fuel ∧ fuel ≤ 255 := hl
 clear hl
 have hmx : mL = 4294967296 := rfl
 (repeat' first | refine Zad ?_ | (refine Zaa tok (by rfl) ?_; conv => whnf))
 refine .inl ⟨_, _, _, uG (QC.fc c_awake23 rfl), ?_⟩
 conv => whnf
 (repeat' first | refine Zad ?_ | (refine Zaa tok (by rfl) ?_; conv => whnf) | (refine Zag ?_; conv => whnf) | (refine Zah ?_; conv => whnf) | refine Zaf rfl (fun hb => ?_) (fun hb => ?_))
 ·cases hb
 clear hb
 refine .inl ⟨_, _, _, uG (QC.fc (c_r6Small m inputs) rfl), ?_⟩
 conv => whnf
 (repeat' first | refine Zad ?_ | (refine Zaa tok (by rfl) ?_; conv => whnf) | (refine Zag ?_; conv => whnf) | (refine Zah ?_; conv => whnf) | refine Zaf rfl (fun hb => ?_) (fun hb => ?_))
 ·exact ⟨_, rfl, Rel.bool rfl⟩
 have hsm : smallB m inputs = true := by simpa using hb
 clear hb
 unfold smallB at hsm
 rw [Bool.and_eq_true, decide_eq_true_eq] at hsm
 have hi : (∀ x ∈ inputs, 0 ≤ x ∧ x ≤ 65535) ∧ inputs.length < 1000000 := ⟨hwords, by omega⟩
 refine .inl ⟨_, _, _, uG (QC.fc (c_iModule m) rfl), ?_⟩
 conv => whnf
 (repeat' ((fail_if_success (show Rg 7)); (fail_if_success (show Rg 8)); first | refine Zad ?_ | (refine Zaa tok (by rfl) ?_; conv => whnf) | (refine Zag ?_; conv => whnf) | refine Zaf rfl (fun hb => ?_) (fun hb => ?_)))
 ·have hr : Za6 m = false := by
   cases h : Za6 m with
   | false => rfl
   | true => unfold errM at hb; rw [if_pos h] at hb; cases hb
  (repeat' (refine Zaa tok (by rfl) ?_; conv => whnf))
  refine .inl ⟨_, _, _, uG (QC.fc (c_lRight c_lpad m) rfl), ?_⟩
  conv => whnf
  (repeat' (refine Zah ?_; conv => whnf))
  exact ⟨_, rfl, Rel.bool (by rw [hr]; rfl)⟩
 have hr : Za6 m = true := by
  cases h : Za6 m with
  | true => rfl
  | false => unfold errM at hb; rw [if_neg (by rw [h]; simp)] at hb; cases hb
 clear hb
 have hN2 := right_inline hr
 have hR := c_Right (Zat m)
 rw [hN2] at hR
 have hA : Alk m (Zat m) inputs 20 := inl_alike hr hi
 generalize Zat m = N at hR hA hN2
 (repeat' (refine Zaa tok (by rfl) ?_; conv => whnf))
 refine .inl ⟨_, _, _, uG (QC.fc hR rfl), ?_⟩
 conv => whnf
 ((repeat' ((fail_if_success (show Rg 11)); first | refine Zad ?_ | (refine Zaa tok (by rfl) ?_; conv => whnf) | (refine Zag ?_; conv => whnf) | (refine Zah ?_; conv => whnf) | refine Zaf rfl (fun hb => ?_) (fun hb => ?_) | (refine uA ?_ ?_; rotate_left; (conv => whnf); rotate_right))); all_goals (try ((guard_target = Zac _ _ _ _); refine Zae ?_; (all_goals (try simp only [Zac, kZ, kA, kB, mL, Zab] at *)); all_goals omega)))
 ·cases hb
 clear hb
 obtain ⟨n, hn⟩ := Int.eq_ofNat_of_zero_le (show 0 ≤ fuel % 100 by omega)
 have hn2 : n < 100 := by omega
 have hw1 : wi (IntKind.u8.wrap (fuel.tmod 100)) = n := by
  have e1 : fuel.tmod 100 = (n : Int) := by rw [Int.tmod_eq_emod_of_nonneg hf0.1]; exact hn
  rw [e1]
  have e2 : IntKind.u8.wrap (n : Int) = n := by unfold IntKind.wrap; simp [IntKind.bits, IntKind.signed]; omega
  rw [e2]; exact Zal (by omega) (by omega)
 have hR1 : ∀ y, y = (n : Int) → FC Tryz.prog 23 [.agg (Zao m), u16s inputs, .int .i64 y] (.agg (Zar (runM m inputs n))) := fun y e => by rw [e]; exact c_RunOk hr hi n (by omega)
 have hR2 : ∀ y, y = ((n * 20 : Nat) : Int) → FC Tryz.prog 23 [.agg (Zao N), u16s inputs, .int .i64 y] (.agg (Zar (runM N inputs (n * 20)))) := fun y e => by rw [e]; exact c_RunOk hN2 hi (n * 20) (by omega)
 have hR3 : ∀ y, y = ((n * 40 : Nat) : Int) → FC Tryz.prog 23 [.agg (Zao m), u16s inputs, .int .i64 y] (.agg (Zar (runM m inputs (n * 40)))) := fun y e => by rw [e]; exact c_RunOk hr hi (n * 40) (by omega)
 have hA1 := c_Alike (runM m inputs n) (runM N inputs (n * 20))
 rw [alk_of hA n (n * 20)] at hA1
 have hA3 := c_Alike (runM m inputs (n * 40)) (runM N inputs (n * 20))
 rw [alk_of hA (n * 40) (n * 20)] at hA3
 have hT1 := c_Told (runM m inputs n) (runM N inputs (n * 20))
 have hT2 := alk_told hA n
 have hB1 := Zfs (runM m inputs n).events (runM N inputs (n * 20)).events
 rw [alk_beg hA n] at hB1
 generalize runM m inputs n = s at hR1 hA1 hT1 hT2 hB1
 generalize runM N inputs (n * 20) = t at hR2 hA1 hA3 hT1 hT2 hB1
 generalize runM m inputs (n * 40) = u at hR3 hA3
 (repeat' (refine Za2 tok mix (by rfl) ?_; conv => whnf))
 refine .inl ⟨_, _, _, uG (QC.fc (hR1 _ ?_) rfl), ?_⟩
 ·exact hw1
 conv => whnf
 skip
 refine .inl ⟨_, _, _, uG (QC.fc (hR2 _ ?_) rfl), ?_⟩
 ·show wi (wi _ * 20) = _
  rw [hw1]; exact (Zal (by omega) (by omega)).trans (by omega)
 conv => whnf
 (repeat' ((fail_if_success (show Rg 13)); (fail_if_success (show Rg 14)); first | refine Zad ?_ | (refine Zaa tok (by rfl) ?_; conv => whnf) | (refine Zag ?_; conv => whnf) | refine Zaf rfl (fun hb => ?_) (fun hb => ?_)))
 ·(repeat' (refine Zaa tok (by rfl) ?_; conv => whnf))
  refine .inl ⟨_, _, _, uG (QC.fc hA1 rfl), ?_⟩
  conv => whnf
  (repeat' (refine Zah ?_; conv => whnf))
  exact ⟨_, rfl, Rel.bool rfl⟩
 have h5 : ¬ s.done = 5 := by
  intro e; simp [e] at hb
 clear hb
 (repeat' ((fail_if_success (show Rg 15)); (fail_if_success (show Rg 16)); first | refine Zad ?_ | (refine Zaa tok (by rfl) ?_; conv => whnf) | (refine Zag ?_; conv => whnf) | refine Zaf rfl (fun hb => ?_) (fun hb => ?_)))
 ·have h0 : ¬ s.done = 0 := by simpa using hb
  rw [hT2 h0 h5] at hT1
  (repeat' (refine Zaa tok (by rfl) ?_; conv => whnf))
  refine .inl ⟨_, _, _, uG (QC.fc hT1 rfl), ?_⟩
  conv => whnf
  (repeat' (refine Zah ?_; conv => whnf))
  exact ⟨_, rfl, Rel.bool rfl⟩
 clear hb
 (repeat' (refine Za2 tok mix (by rfl) ?_; conv => whnf))
 refine .inl ⟨_, _, _, uG (QC.fc hB1 rfl), ?_⟩
 conv => whnf
 skip
 refine .inl ⟨_, _, _, uG (QC.fc (hR3 _ ?_) rfl), ?_⟩
 ·show wi (wi _ * 40) = _
  rw [hw1]; exact (Zal (by omega) (by omega)).trans (by omega)
 conv => whnf
 skip
 refine .inl ⟨_, _, _, uG (QC.fc hA3 rfl), ?_⟩
 conv => whnf
 (repeat' (refine Zah ?_; conv => whnf))
 exact ⟨_, rfl, Rel.bool rfl⟩
end Go.Proofs.YtoelbgjpmpoolaaGreat
namespace Go.Proofs.YtoelbgjpmpoolaaGreat
open Go Dv Go.ChangeShapes Go.WideShapes Go.ChangeAt Go.RowKit
open Go.Proofs.YtoelbgjpmpoolaaGreat
set_option maxRecDepth 100000
set_option linter.unusedVariables false
namespace inlineKeeps
theorem own : ownKnob Tryz.prog.godebug = none := by kernel_rfl
theorem contract (H : Type) (enc : TypeId × Value → H) (W : World) (base : Nat) (args : Array Value) (ds gs : List (DataW H)) (before : List MemPlace) (hk : Rows.uptoSmall H (ds ++ gs) = true)
  (hval : ∀ (j : Nat) t v, Tryz.f4.params[j]? = some t → args[j]? = some v → Value.okWide Tryz.prog W .any base t v)
  (hW : DataW.Whole enc Tryz.prog Tryz.f4.params.toList Rows.inlineKeepsSpec.vars false W args.toList ds gs before) :
  Calls Tryz.prog 4 args W fun e W' => ∃ v, e = .returned v ∧ Rows.inlineKeepsSpec.post enc Tryz.prog Tryz.f4 false true false false W args v W' := by
 have hsm := small_of hk
 have hW' := hW
 obtain ⟨p, q, hA0, hV, rfl, hfz, hnd⟩ := hW
 have hA : DataW.TrodAll enc Tryz.prog W 0 (fun _ => true) true Tryz.f4.params.toList args.toList ds p := hA0
 rw [Tryz.params4] at hA hval
 obtain ⟨v0, vs0, d0, ds0, p0, q0, hargs, rfl, rfl, h0, r0⟩ := trodAll_cons hA
 obtain ⟨v1, vs1, d1, ds1, p1, q1, rfl, rfl, rfl, h1, r1⟩ := trodAll_cons r0
 obtain ⟨v2, vs2, d2, ds2, p2, q2, rfl, rfl, rfl, h2, r2⟩ := trodAll_cons r1
 obtain ⟨rfl, rfl, rfl⟩ := trodAll_nil r2
 obtain rfl : args = #[v0, v1, v2] := by cases args; simp_all
 obtain ⟨x0, hx0⟩ := arg_struct Tryz.underlying24 (hval 0 _ v0 rfl rfl) h0 rd_Module (hsm d0 (by simp))
 obtain ⟨x1, hx1⟩ := arg_slice Tryz.underlying25 (hval 1 _ v1 rfl rfl) h1 rd_u16s (hsm d1 (by simp))
 obtain ⟨x2, hx2⟩ := arg_int Tryz.underlying5 (hval 2 _ v2 rfl rfl) h2
 have hb2 := hx2
 simp only [V] at hb2
 obtain ⟨rfl, rfl⟩ := trodVars_none hV
 refine law_contract (tb := 4) (by decide +kernel) (by rw [Tryz.params4]; decide +kernel) rfl (by kernel_rfl) Tryz.underlying4 hW' ⟨rfl, rfl, rfl⟩ (FC.calls (c_InlineKeeps x0 x1 x2) ?_)
 simp only [Vs]
 exact ⟨_, _, rfl, hx0, _, _, rfl, hx1, _, _, rfl, hx2, rfl⟩
theorem lifted (os : Os) (started : os.Started) (H : Type) (enc : TypeId × Value → H) (F : Stop.Interp) :
  ReturnsInHanded {} Tryz.checked os 4 .any ((Rows.OpenSpec.upto Rows.inlineKeepsSpec).pre6 enc Tryz.prog Tryz.f4 Rows.inlineKeepsUptoRow.domain false) (((Rows.OpenSpec.upto Rows.inlineKeepsSpec).at F).post enc Tryz.prog Tryz.f4 false true false false) := by
 refine returnsInHanded_of_cond (C := Tryz.checked) (s := Rows.OpenSpec.upto Rows.inlineKeepsSpec) (k := Rows.uptoSmall) rfl own started (by kernel_rfl) Tryz.func4
  (OpenSpec.witness (enc := enc) (C := Tryz.checked) (s := Rows.OpenSpec.upto Rows.inlineKeepsSpec) (k := Rows.uptoSmall) rfl false ⟨#[], #[.agg #[.slice none 0 0], .slice none 0 0, .int .u8 0], []⟩ 64 (by kernel_rfl) (by kernel_rfl) (by kernel_rfl)
   (x := ([.agg [.nil], .nil, .lit (.int .u8 0)], [], [])) (by kernel_rfl) rfl (by kernel_rfl)) ?_
 intro W base args ds gs before hval hW _ hk _
 exact contract H enc W base args ds gs before hk hval hW
theorem over : Rows.inlineKeepsUptoRow.holds Tryz.pinned (Rows.OpenSpec.upto Rows.inlineKeepsSpec) :=
 OpenClaim.holds_of_cond 4 Tryz.f4 rfl rfl rfl rfl rfl rfl rfl ⟨rfl, rfl, rfl, rfl, rfl⟩ rfl rfl rfl rfl rfl (by kernel_rfl) Tryz.func4 (by kernel_rfl)
  (of_decide_eq_true (by kernel_rfl)) (by unfold Func.isWrapper; first | (rw [if_pos (by decide +kernel)]; kernel_rfl) | (rw [if_neg (by decide +kernel)]; exact ⟨rfl, rfl⟩))
  (fun os started H enc _ F => lifted os started H enc F)
end inlineKeeps
theorem inlineKeeps_holds : Rows.InlineKeepsUptoSaid := inlineKeeps.over
end Go.Proofs.YtoelbgjpmpoolaaGreat
