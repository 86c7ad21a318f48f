/- Which instructions the steps of a run execute, and by which lanes; the first step. No program in sight. A block of instructions in lockstep, as the program walks through it with a function that looks on. Uniform registers: what the analysis computes, on trees. No program in sight. No condition. -/
import Derived.Test.YtokdfgodmhekmaaKaa
import Derived.Test.YtokdfgodmhekmaaKad
import Derived.Test.YtokdfgodmhekmaaKaj
import Derived.Test.YtokdfgodmhekmaaKbc

namespace Go.Proofs.Ytokdfgodmhekmaa

theorem plain_op {c : Cd} (h : Plain c) : c.op ≠ 12 ∧ c.op ≠ 14 := ⟨h.2.2.1, h.2.2.2.2⟩
theorem turns_mem {F : Nat → LS → LS} {n a : Nat} {Q : Nat × Nat × (Nat → Nat → Int) → Prop} (hF : ∀ y s x, x ∈ (F y s).H → x ∈ s.H ∨ Q x) : ∀ (b y : Nat) (s : LS) (x), x ∈ (turns F n a b y s).H → x ∈ s.H ∨ Q x
  | 0, _, _, _, h => .inl h
  | b + 1, y, s, x, h => by
    rcases turns_mem hF b (onesTo s.R y a n) (F (onesTo s.R y a n) s) x h with h | h
    · exact hF _ _ _ h
    · exact .inr h
theorem beat_mem {i mask : Nat} {s : LS} {x : Nat × Nat × (Nat → Nat → Int)} (h : x ∈ (beat i mask s).H) : x ∈ s.H ∨ (x.1 = i ∧ x.2.1 = mask) := by
  rcases List.mem_append.1 h with h | h
  · exact .inl h
  · simp at h; subst h; exact .inr ⟨rfl, rfl⟩
/-- No step is one of an OpElse or an OpEnd. -/
theorem run_op {cs : List Cd} (n m : Nat) : ∀ (t : Tr) (i mask : Nat) (s : LS) (x), t.Ok → Seg cs i t → x ∈ (run n m t i mask s).H → x ∈ s.H ∨ ((cs.getD x.1 default).op ≠ 12 ∧ (cs.getD x.1 default).op ≠ 14)
  | .nil, _, _, _, _, _, _, h => .inl h
  | .op c k, i, mask, s, x, ho, hs, h => by
    obtain ⟨h1, _, h3⟩ := hs.op
    by_cases h0 : mask = 0
    · subst h0; rw [run_zero] at h; exact .inl h
    · have h : x ∈ (if mask = 0 then s else run n m k (i + 1) mask (exec c n m i mask s) : LS).H := h
      rw [if_neg h0] at h
      rcases run_op n m k _ _ _ _ ho.2 h3 h with h | h
      · rw [exec_H] at h
        rcases beat_mem (s := s) h with h | h
        · exact .inl h
        · rw [h.1, h1]; exact .inr (plain_op ho.1)
      · exact .inr h
  | .ite a t k, i, mask, s, x, ho, hs, h => by
    obtain ⟨h1, h2, _, _, h3⟩ := hs.ite
    by_cases h0 : mask = 0
    · subst h0; rw [run_zero] at h; exact .inl h
    · have h : x ∈ (if mask = 0 then s else _ : LS).H := h
      rw [if_neg h0] at h
      rcases run_op n m k _ _ _ _ ho.2.2 h3 h with h | h
      · rcases run_op n m t _ _ _ _ ho.2.1 h2 h with h | h
        · rcases beat_mem (s := s) h with h | h
          · exact .inl h
          · rw [h.1, h1]; exact .inr ⟨by simp [cIf], by simp [cIf]⟩
        · exact .inr h
      · exact .inr h
  | .itee a t e k, i, mask, s, x, ho, hs, h => by
    obtain ⟨h1, h2, _, h4, _, _, h3⟩ := hs.itee
    by_cases h0 : mask = 0
    · subst h0; rw [run_zero] at h; exact .inl h
    · have h : x ∈ (if mask = 0 then s else _ : LS).H := h
      rw [if_neg h0] at h
      rcases run_op n m k _ _ _ _ ho.2.2.2 h3 h with h | h
      · rcases run_op n m e _ _ _ _ ho.2.2.1 h4 h with h | h
        · rcases run_op n m t _ _ _ _ ho.2.1 h2 h with h | h
          · rcases beat_mem (s := s) h with h | h
            · exact .inl h
            · rw [h.1, h1]; exact .inr ⟨by simp [cIf], by simp [cIf]⟩
          · exact .inr h
        · exact .inr h
      · exact .inr h
  | .loop a b t k, i, mask, s, x, ho, hs, h => by
    obtain ⟨h1, h2, _, _, h3⟩ := hs.loop
    by_cases h0 : mask = 0
    · subst h0; rw [run_zero] at h; exact .inl h
    · have h : x ∈ (if mask = 0 then s else _ : LS).H := h
      rw [if_neg h0] at h
      rcases run_op n m k _ _ _ _ ho.2.2.2 h3 h with h | h
      · rcases turns_mem (fun y s x hx => run_op n m t _ _ _ _ ho.2.2.1 h2 hx) _ _ _ _ h with h | h
        · rcases beat_mem (s := s) h with h | h
          · exact .inl h
          · rw [h.1, h1]; exact .inr ⟨by simp [cLoop], by simp [cLoop]⟩
        · exact .inr h
      · exact .inr h

/-- Steps outside of the blocks of a tree have its mask. -/
def OutStep (cs : List Cd) (i mask : Nat) (x : Nat × Nat × (Nat → Nat → Int)) : Prop := (x.2.1 = mask ∧ aroundAt cs x.1 = aroundAt cs i) ∨ (i : Int) ≤ aroundAt cs x.1
theorem around_op {cs : List Cd} {i : Nat} (h1 : ¬ Opens (cs.getD i default)) (h2 : (cs.getD i default).op ≠ 14) : aroundAt cs (i + 1) = aroundAt cs i := by
  unfold aroundAt
  rw [bScan_succ, if_neg h2, if_neg h1]
theorem around_open {cs : List Cd} {i : Nat} (h : Opens (cs.getD i default)) : aroundAt cs (i + 1) = i := by
  unfold aroundAt
  have h2 : (cs.getD i default).op ≠ 14 := by rcases h with h | h <;> omega
  rw [bScan_succ, if_neg h2, if_pos h, if_pos rfl]
/-- Behind a block the blocks around are those before it. -/
theorem around_behind {cs : List Cd} {i : Nat} {t : Tr} (ho : t.Ok) (hs : Seg cs (i + 1) t) (h : Opens (cs.getD i default)) (he : cs.getD (i + 1 + t.len) default = cEnd) : aroundAt cs (i + 1 + t.len + 1) = aroundAt cs i := by
  unfold aroundAt
  have h2 : (cs.getD i default).op ≠ 14 := by rcases h with h | h <;> omega
  rw [bScan_succ, he, if_pos (by rfl), bScan_flat t (i + 1) 1 ho hs, bScan_succ, if_neg h2, if_pos h, if_neg (by decide)]
theorem around_behind2 {cs : List Cd} {i : Nat} {t e : Tr} (ho : t.Ok) (hs : Seg cs (i + 1) t) (h : Opens (cs.getD i default)) (he : cs.getD (i + 1 + t.len) default = cElse) (hoe : e.Ok) (hse : Seg cs (i + 1 + t.len + 1) e) (he2 : cs.getD (i + 1 + t.len + 1 + e.len) default = cEnd) :
    aroundAt cs (i + 1 + t.len + 1 + e.len + 1) = aroundAt cs i ∧ aroundAt cs (i + 1 + t.len + 1) = i := by
  have h2 : (cs.getD i default).op ≠ 14 := by rcases h with h | h <;> omega
  unfold aroundAt
  constructor
  · rw [bScan_succ, he2, if_pos (by rfl), bScan_flat e _ 1 hoe hse, bScan_succ, he, if_neg (by decide), if_neg opens_else, bScan_flat t (i + 1) 1 ho hs, bScan_succ, if_neg h2, if_pos h, if_neg (by decide)]
  · rw [bScan_succ, he, if_neg (by decide), if_neg opens_else, bScan_flat t (i + 1) 0 ho hs, bScan_succ, if_neg h2, if_pos h, if_pos rfl]
theorem OutStep.inner {cs : List Cd} {i j mask mask' : Nat} {x : Nat × Nat × (Nat → Nat → Int)} (h : OutStep cs j mask' x) (hj : aroundAt cs j = i) (hij : i ≤ j) : OutStep cs i mask x := by
  rcases h with h | h
  · exact .inr (by rw [h.2, hj]; exact Int.le_refl _)
  · exact .inr (by omega)
theorem OutStep.next {cs : List Cd} {i j mask : Nat} {x : Nat × Nat × (Nat → Nat → Int)} (h : OutStep cs j mask x) (hj : aroundAt cs j = aroundAt cs i) (hij : i ≤ j) : OutStep cs i mask x := by
  rcases h with h | h
  · exact .inl ⟨h.1, by rw [h.2, hj]⟩
  · exact .inr (by omega)
theorem run_out {cs : List Cd} (n m : Nat) : ∀ (t : Tr) (i mask : Nat) (s : LS) (x), t.Ok → Seg cs i t → x ∈ (run n m t i mask s).H → x ∈ s.H ∨ OutStep cs i mask x
  | .nil, _, _, _, _, _, _, h => .inl h
  | .op c k, i, mask, s, x, ho, hs, h => by
    obtain ⟨h1, _, h3⟩ := hs.op
    by_cases h0 : mask = 0
    · subst h0; rw [run_zero] at h; exact .inl h
    · have h : x ∈ (if mask = 0 then s else run n m k (i + 1) mask (exec c n m i mask s) : LS).H := h
      rw [if_neg h0] at h
      have hn : aroundAt cs (i + 1) = aroundAt cs i := around_op (by rw [h1]; have := ho.1; unfold Plain at this; unfold Opens; omega) (by rw [h1]; exact ho.1.2.2.2.2)
      rcases run_out n m k _ _ _ _ ho.2 h3 h with h | h
      · rw [exec_H] at h
        rcases beat_mem (s := s) h with h | h
        · exact .inl h
        · exact .inr (.inl ⟨h.2, by rw [h.1]⟩)
      · exact .inr (h.next hn (by omega))
  | .ite a t k, i, mask, s, x, ho, hs, h => by
    obtain ⟨h1, h2, he, _, h3⟩ := hs.ite
    have hop : Opens (cs.getD i default) := by rw [h1]; exact opens_if a
    by_cases h0 : mask = 0
    · subst h0; rw [run_zero] at h; exact .inl h
    · have h : x ∈ (if mask = 0 then s else _ : LS).H := h
      rw [if_neg h0] at h
      rcases run_out n m k _ _ _ _ ho.2.2 h3 h with h | h
      · rcases run_out n m t _ _ _ _ ho.2.1 h2 h with h | h
        · rcases beat_mem (s := s) h with h | h
          · exact .inl h
          · exact .inr (.inl ⟨h.2, by rw [h.1]⟩)
        · exact .inr (h.inner (around_open hop) (by omega))
      · exact .inr (h.next (around_behind ho.2.1 h2 hop he) (by omega))
  | .itee a t e k, i, mask, s, x, ho, hs, h => by
    obtain ⟨h1, h2, he, h4, he2, _, h3⟩ := hs.itee
    have hop : Opens (cs.getD i default) := by rw [h1]; exact opens_if a
    obtain ⟨hb1, hb2⟩ := around_behind2 ho.2.1 h2 hop he ho.2.2.1 h4 he2
    by_cases h0 : mask = 0
    · subst h0; rw [run_zero] at h; exact .inl h
    · have h : x ∈ (if mask = 0 then s else _ : LS).H := h
      rw [if_neg h0] at h
      rcases run_out n m k _ _ _ _ ho.2.2.2 h3 h with h | h
      · rcases run_out n m e _ _ _ _ ho.2.2.1 h4 h with h | h
        · rcases run_out n m t _ _ _ _ ho.2.1 h2 h with h | h
          · rcases beat_mem (s := s) h with h | h
            · exact .inl h
            · exact .inr (.inl ⟨h.2, by rw [h.1]⟩)
          · exact .inr (h.inner (around_open hop) (by omega))
        · exact .inr (h.inner hb2 (by omega))
      · exact .inr (h.next hb1 (by omega))
  | .loop a b t k, i, mask, s, x, ho, hs, h => by
    obtain ⟨h1, h2, he, _, h3⟩ := hs.loop
    have hop : Opens (cs.getD i default) := by rw [h1]; exact opens_loop a b
    by_cases h0 : mask = 0
    · subst h0; rw [run_zero] at h; exact .inl h
    · have h : x ∈ (if mask = 0 then s else _ : LS).H := h
      rw [if_neg h0] at h
      rcases run_out n m k _ _ _ _ ho.2.2.2 h3 h with h | h
      · rcases turns_mem (Q := OutStep cs i mask) (fun y s x hx => (run_out n m t _ _ _ _ ho.2.2.1 h2 hx).imp id fun h => h.inner (around_open hop) (by omega)) _ _ _ _ h with h | h
        · rcases beat_mem (s := s) h with h | h
          · exact .inl h
          · exact .inr (.inl ⟨h.2, by rw [h.1]⟩)
        · exact .inr h
      · exact .inr (h.next (around_behind ho.2.2.1 h2 hop he) (by omega))
theorem around_0 (cs : List Cd) : aroundAt cs 0 = -1 := rfl

/-- What was noted before stays in front. -/
def Ext (s s' : LS) : Prop := ∃ X, s'.H = s.H ++ X
theorem Ext.refl (s : LS) : Ext s s := ⟨[], by simp⟩
theorem Ext.trans {a b c : LS} (h : Ext a b) (k : Ext b c) : Ext a c := by
  obtain ⟨X, h⟩ := h; obtain ⟨Y, k⟩ := k; exact ⟨X ++ Y, by rw [k, h]; simp⟩
theorem ext_beat (i mask : Nat) (s : LS) : Ext s (beat i mask s) := ⟨_, rfl⟩
theorem ext_exec (c : Cd) (n m i mask : Nat) (s : LS) : Ext (beat i mask s) (exec c n m i mask s) := ⟨[], by rw [exec_H]; simp; rfl⟩
theorem ext_turns {F : Nat → LS → LS} {n a : Nat} (hF : ∀ y s, Ext s (F y s)) : ∀ (b y : Nat) (s : LS), Ext s (turns F n a b y s)
  | 0, _, s => Ext.refl s
  | b + 1, _y, s => (hF _ s).trans (ext_turns hF b _ _)
theorem run_ext (n m : Nat) : ∀ (t : Tr) (i mask : Nat) (s : LS), Ext s (run n m t i mask s)
  | .nil, _, _, s => Ext.refl s
  | .op c k, i, mask, s => by
    show Ext s (if _ then _ else _)
    split
    · exact Ext.refl s
    · exact (ext_beat i mask s).trans ((ext_exec c n m i mask s).trans (run_ext n m k _ _ _))
  | .ite a t k, i, mask, s => by
    show Ext s (if _ then _ else _)
    split
    · exact Ext.refl s
    · exact (ext_beat i mask s).trans ((run_ext n m t _ _ _).trans (run_ext n m k _ _ _))
  | .itee a t e k, i, mask, s => by
    show Ext s (if _ then _ else _)
    split
    · exact Ext.refl s
    · exact (ext_beat i mask s).trans ((run_ext n m t _ _ _).trans ((run_ext n m e _ _ _).trans (run_ext n m k _ _ _)))
  | .loop a b t k, i, mask, s => by
    show Ext s (if _ then _ else _)
    split
    · exact Ext.refl s
    · exact (ext_beat i mask s).trans ((ext_turns (fun y s => run_ext n m t _ _ _) _ _ _).trans (run_ext n m k _ _ _))
/-- The first step of a tree that is not empty. -/
theorem run_first (n m : Nat) (t : Tr) (i mask : Nat) (s : LS) (h0 : mask ≠ 0) (ht : 0 < t.len) : Ext (beat i mask s) (run n m t i mask s) := by
  cases t with
  | nil => simp [Tr.len, Tr.flat] at ht
  | op c k =>
    show Ext _ (if _ then _ else _)
    rw [if_neg h0]
    exact (ext_exec c n m i mask s).trans (run_ext n m k _ _ _)
  | ite a t k =>
    show Ext _ (if _ then _ else _)
    rw [if_neg h0]
    exact (run_ext n m t _ _ _).trans (run_ext n m k _ _ _)
  | itee a t e k =>
    show Ext _ (if _ then _ else _)
    rw [if_neg h0]
    exact (run_ext n m t _ _ _).trans ((run_ext n m e _ _ _).trans (run_ext n m k _ _ _))
  | loop a b t k =>
    show Ext _ (if _ then _ else _)
    rw [if_neg h0]
    exact (ext_turns (fun y s => run_ext n m t _ _ _) _ _ _).trans (run_ext n m k _ _ _)

end Go.Proofs.Ytokdfgodmhekmaa

namespace Go.Proofs.Ytokdfgodmhekmaa
open Go.RowKit

/-- What is told of every step. -/
def UH (U : Nat → Nat → (Nat → Nat → Int) → Prop) (H : List (Nat × Nat × (Nat → Nat → Int))) : Prop := ∀ x ∈ H, U x.1 x.2.1 x.2.2
def BeatOk (o : IObj) (U : Nat → Nat → (Nat → Nat → Int) → Prop) : Prop := ∀ (w : World) (vb va : Value) (s : LS) (i mask : Nat), ORun o w vb va s → U i mask s.R → i < o.cs.length → mask < 2 ^ o.rm.n → s.H.length + 1 ≤ 1099511627776 →
  Calls Try.prog 103 #[.pointer (some ⟨o.p, 0, none⟩), .int .i64 i, .int .i64 mask] w (StepP o w vb va (beat i mask s))
section
variable {U : Nat → Nat → (Nat → Nat → Int) → Prop} {n m k mask : Nat} {s : LS}
theorem UH.ext {s s' : LS} (h : UH U s'.H) (e : Ext s s') : UH U s.H := by
  obtain ⟨X, hX⟩ := e
  intro x hx
  exact h x (by rw [hX]; exact List.mem_append_left _ hx)
theorem UH.first {t : Tr} (h : UH U (run n m t k mask s).H) (h0 : mask ≠ 0) (ht : 0 < t.len) : U k mask s.R :=
  (h.ext (run_first n m t k mask s h0 ht)) (k, mask, s.R) (by simp [beat])
theorem UH.ite {a : Int} {t tk : Tr} (h : UH U (run n m (.ite a t tk) k mask s).H) (h0 : mask ≠ 0) : UH U (run n m t (k + 1) (onesTo s.R mask a.toNat n) (beat k mask s)).H := by
  have e : run n m (.ite a t tk) k mask s = run n m tk (k + 1 + t.len + 1) mask (run n m t (k + 1) (onesTo s.R mask a.toNat n) (beat k mask s)) := if_neg h0
  rw [e] at h
  exact h.ext (run_ext n m tk _ mask _)
theorem UH.itee {a : Int} {t e tk : Tr} (h : UH U (run n m (.itee a t e tk) k mask s).H) (h0 : mask ≠ 0) : UH U (run n m t (k + 1) (onesTo s.R mask a.toNat n) (beat k mask s)).H ∧
    UH U (run n m e (k + 1 + t.len + 1) (del mask (onesTo s.R mask a.toNat n)) (run n m t (k + 1) (onesTo s.R mask a.toNat n) (beat k mask s))).H := by
  have e1 : run n m (.itee a t e tk) k mask s = run n m tk (k + 1 + t.len + 1 + e.len + 1) mask (run n m e (k + 1 + t.len + 1) (del mask (onesTo s.R mask a.toNat n)) (run n m t (k + 1) (onesTo s.R mask a.toNat n) (beat k mask s))) := if_neg h0
  rw [e1] at h
  have h2 := h.ext (run_ext n m tk _ mask _)
  exact ⟨h2.ext (run_ext n m e _ _ _), h2⟩
theorem UH.loop {a b : Int} {t tk : Tr} (h : UH U (run n m (.loop a b t tk) k mask s).H) (h0 : mask ≠ 0) : UH U (turns (run n m t (k + 1)) n a.toNat b.toNat mask (beat k mask s)).H := by
  have e : run n m (.loop a b t tk) k mask s = run n m tk (k + 1 + t.len + 1) mask (turns (run n m t (k + 1)) n a.toNat b.toNat mask (beat k mask s)) := if_neg h0
  rw [e] at h
  exact h.ext (run_ext n m tk _ mask _)
theorem UH.turn {t : Tr} {i a b y : Nat} (h : UH U (turns (run n m t i) n a b y s).H) : UH U s.H := h.ext (ext_turns (fun y s => run_ext n m t i y s) b y s)
end

set_option maxHeartbeats 8000000 in
set_option maxRecDepth 100000 in
theorem iblockU_any (o : IObj) (hv : PValid o.cs) (U : Nat → Nat → (Nat → Nat → Int) → Prop) (hlook : BeatOk o U) : ∀ (sz : Nat) (t : Tr) (i mask : Nat) (s : LS) (vb va : Value) (w : World) (fr tz : Int), t.len ≤ sz → t.Ok → Seg o.cs i t → i + t.len ≤ o.cs.length → mask < 2 ^ o.rm.n →
    msz s + 10 * t.cost ≤ 1099511627000 → UH U (run o.rm.n o.rm.m t i mask s).H → ORun o w vb va s → fr = (i : Nat) → tz = ((i + t.len : Nat) : Int) →
    Calls Try.prog 83 #[.pointer (some ⟨o.p, 0, none⟩), .int .i64 fr, .int .i64 tz, .int .i64 mask] w (StepP o w vb va (run o.rm.n o.rm.m t i mask s)) := by
  intro sz
  induction sz with
  | zero =>
    intro t i mask s vb va w fr tz hsz hok hseg hic hmask hcost hU hrun hfr hto
    obtain rfl := Tr.len_zero (show t.len = 0 by omega)
    subst hfr hto
    have HR := Lib.hid hrun
    clear hrun
    have hl0 : Tr.nil.len = 0 := rfl
    rw [hl0, Nat.add_zero]
    clear hl0 hsz hcost hU
    go_enter Try.func83, Try.ntmps83
    go_wp2_with fail
    go_loopg [8] 0 (fun gk i' wr => i' = .int .i64 i ∧ wr = w)
    case atStart => exact ⟨rfl, rfl⟩
    case round =>
      obtain ⟨rfl, rfl⟩ := hrel
      go_wp2_with fail
      go_end0
      exact ⟨rfl, vb, va, HR.out, OStep.refl _ _ _ _⟩
  | succ sz ih =>
    intro t i mask s vb va w fr tz hsz hok hseg hic hmask hcost hU hrun hfr hto
    subst hfr
    have HIH := Lib.hid ih
    have HV := Lib.hid hv
    have HLK := Lib.hid hlook
    have HUH := Lib.hid hU
    have HTO := Lib.hid hto
    have HR := Lib.hid hrun
    have HSEG := Lib.hid hseg
    have HOK := Lib.hid hok
    have HCO := Lib.hid hcost
    have HSZ := Lib.hid hsz
    have hn8 := hrun.rm.n8
    have hsmall := hv.2.1
    have hm256 : mask < 256 := Nat.lt_of_lt_of_le hmask (powI hn8)
    have HMASK := Lib.hid hmask
    obtain ⟨A, cA, hvl, hnc, hcm⟩ := hrun.codes.form
    have HVL := Lib.hid hvl
    have htoc : tz ≤ (o.cs.length : Int) := by rw [hto]; exact_mod_cast hic
    clear ih hv hlook hU hto hrun hseg hok hcost hsz hic hvl
    go_enter Try.func83, Try.ntmps83
    go_wp2_with fail
    go_loopg [8] t.len (fun gk kk wr => ∃ (t' : Tr) (k : Nat) (s' : LS) (vb' va' : Value), gk = t'.len ∧ ((k + t'.len : Nat) : Int) = tz ∧ t'.len ≤ t.len ∧ kk = .int .i64 k ∧ t'.Ok ∧ Seg o.cs k t' ∧ msz s' + 10 * t'.cost ≤ 1099511627000 ∧ ORun o wr vb' va' s' ∧ OStep o w vb va wr vb' va' ∧ run o.rm.n o.rm.m t' k mask s' = run o.rm.n o.rm.m t i mask s)
    case atStart => exact ⟨t, i, s, vb, va, rfl, HTO.out.symm, Nat.le_refl _, rfl, HOK.out, HSEG.out, HCO.out, HR.out, OStep.refl _ _ _ _, rfl⟩
    case round =>
      clear HR HSEG HOK HCO HTO
      obtain ⟨t', k, s', vb', va', hgk, hto, htl, rfl, hok, hseg, hco, hr, hst, hrun⟩ := hrel
      have Hgk := Lib.hid hgk
      have Hto := Lib.hid hto
      have Htl := Lib.hid htl
      have Hok := Lib.hid hok
      have Hseg := Lib.hid hseg
      have Hco := Lib.hid hco
      have Hr := Lib.hid hr
      have Hst := Lib.hid hst
      have Hrun := Lib.hid hrun
      clear hgk hto htl hok hseg hco hst hrun hr
      by_cases hm0 : mask = 0
      · subst hm0
        have hfin : run o.rm.n o.rm.m t i 0 s = s' := by rw [← Hrun.out, run_zero]
        have Hfin := Lib.hid hfin
        clear hfin
        by_cases hlt : (k : Int) < tz
        · go_wp2_with fail
          go_end0
          exact ⟨rfl, vb', va', by rw [Hfin.out]; exact Hr.out, Hst.out⟩
        · go_wp2_with fail
          go_end0
          exact ⟨rfl, vb', va', by rw [Hfin.out]; exact Hr.out, Hst.out⟩
      by_cases hlt : (k : Int) < tz
      case neg =>
        have hz : t' = .nil := Tr.len_zero (by have := Hto.out; omega)
        subst hz
        have Hfin : Hid (run o.rm.n o.rm.m t i mask s = s') := Lib.hid (by rw [← Hrun.out]; rfl)
        clear hm0
        go_wp2_with fail
        go_end0
        exact ⟨rfl, vb', va', by rw [Hfin.out]; exact Hr.out, Hst.out⟩
      case pos =>
        have HM0 := Lib.hid hm0
        have hmne : ((mask : Int) != 0) = true := by rw [bne_iff_ne]; omega
        clear hm0
        have hk : k < o.cs.length := by omega
        have hk0 : (0 : Int) ≤ (k : Int) := by omega
        have hkI : (k : Int) < (o.cs.length : Int) := by omega
        have HUR : Hid (UH U (run o.rm.n o.rm.m t' k mask s').H) := Lib.hid (by rw [Hrun.out]; exact HUH.out)
        have HUK : Hid (U k mask s'.R) := Lib.hid (UH.first HUR.out HM0.out (by have := Hto.out; omega))
        have Hms : Hid (s'.H.length + 1 ≤ 1099511627776) := Lib.hid (by have := Hco.out; unfold msz at this; omega)
        have HB1 : Hid (msz (beat k mask s') = msz s' + 1) := Lib.hid (beat_msz k mask s')
        go_wp2_with fail
        refine (HLK.out _ vb' va' s' k mask Hr.out HUK.out hk HMASK.out Hms.out).mono ?_
        rintro e w2 ⟨rfl, vb2, va2, hr2, hs2⟩
        have HR2 := Lib.hid hr2
        have HST2 := Lib.hid (Hst.out.trans hs2)
        obtain ⟨p0, p1, p2, p3, p4, p5, p6⟩ := hr2.obj.facts
        have m0 := keepP hr2.pure hr2.mach.1
        have m1 := keepP hr2.pure hr2.mach.2
        rw [HVL.out] at m0
        have hcd := hr2.codes.keep hr2.pure
        rw [HVL.out] at hcd
        obtain ⟨b, ob, rfl, hb, hc⟩ := hcd.at_ hk
        obtain ⟨cd, Hcd⟩ : ∃ cd, Hid (o.cs.getD k default = cd) := ⟨_, rfl⟩
        rw [Hcd.out] at hc
        obtain ⟨c0, c1, c2, c3⟩ := hc
        have hcok : CdOk cd := by rw [← Hcd.out]; exact HV.out.1 _ (cdOk_mem hk)
        have HCOK := Lib.hid hcok
        obtain ⟨op, ca, cb, cc⟩ := cd
        simp only at c0 c1 c2 c3
        obtain ⟨Ao, co, hvo, hco2, hco3, bo, oo, rfl, hbo, hown⟩ := hr2.tabs.own hk
        rw [hvo] at m1
        have HOWN := Lib.hid hown
        have HNO : Hid (¬ o.own vb2 va2 w2.heap.size) := Lib.hid (fun e => absurd (hr2.own_hi _ e) (by omega))
        clear hr2 hs2 p1 p2 p3 p4 p5 p6 hcd hcok hown
        cases t' with
        | nil => exact absurd Hto.out (by have : Tr.nil.len = 0 := rfl; omega)
        | op cx tk =>
          have hce : cx = ⟨op, ca, cb, cc⟩ := Hseg.out.op.1.symm.trans Hcd.out
          subst hce
          have HPL := Lib.hid Hok.out.1
          have g0 : w2.cell? ⟨bo, oo + k, none⟩ = some (.pointer none) := keepP HR2.out.pure (HOWN.out.2 (by have h := HPL.out; unfold ownOf; rw [Hcd.out, if_neg (by unfold Opens; rintro (h1 | h1); exact h.2.1 h1; exact h.2.2.2.1 h1), if_neg (by rintro (h1 | h1); exact h.2.2.1 h1; exact h.2.2.2.2 h1)]))
          have d11 : (op == 11) = false := by rw [beq_eq_false_iff_ne]; exact HPL.out.2.1
          have d13 : (op == 13) = false := by rw [beq_eq_false_iff_ne]; exact HPL.out.2.2.2.1
          go_wp2_with fail
          refine region_heldF (fun w' => w'.cell? ⟨o.p, 0, none⟩ = some (.pointer (some ⟨o.pm, 0, none⟩)) ∧ w'.cell? ⟨o.pm, 0, none⟩ = some (.slice (some ⟨b, ob, none⟩) o.cs.length cA) ∧ w'.cell? ⟨o.pm, 1, none⟩ = some (.slice (some ⟨bo, oo, none⟩) o.cs.length co) ∧ w'.cell? ⟨bo, oo + k, none⟩ = some (.pointer none) ∧ w'.cell? ⟨b, ob + k * 4, none⟩ = some (.int .i64 op) ∧ w'.cell? ⟨b, ob + k * 4 + 1, none⟩ = some (.int .i64 ca) ∧ w'.cell? ⟨b, ob + k * 4 + 2, none⟩ = some (.int .i64 cb) ∧ w'.cell? ⟨b, ob + k * 4 + 3, none⟩ = some (.int .i64 cc))
            (List.range 20) [20, 21, 22] (fun l => List.take 20 l) (fun l => List.drop 20 l) (by kernel_rfl) (by kernel_rfl) (by kernel_rfl) (by kernel_rfl) (fun c a d v w h => by cases d <;> exact h) (by exact ⟨p0, m0, m1, g0, c0, c1, c2, c3⟩) ?_
          simp only [List.take_succ_cons, List.take_zero, List.drop_succ_cons, List.drop_zero]
          iterate 20
            apply held_of
            · exact rfl
            · intro w' hS
              obtain ⟨s0, s1, s2, s3, s4, s5, s6, s7⟩ := hS
              go_simp
              try exact rfl
            try go_simp
          refine held_nil ?_
          unfold Tail
          go_wp2
          refine And.intro (by exact ⟨keepP (by repeat (first | assumption | exact Pure.refl _ | refine Pure.drewN ?_ _ | refine Pure.drew ?_ | refine Pure.alloc ?_ _ | refine Pure.setCell ?_ (by simp <;> omega) _)) p0, keepP (by repeat (first | assumption | exact Pure.refl _ | refine Pure.drewN ?_ _ | refine Pure.drew ?_ | refine Pure.alloc ?_ _ | refine Pure.setCell ?_ (by simp <;> omega) _)) m0, keepP (by repeat (first | assumption | exact Pure.refl _ | refine Pure.drewN ?_ _ | refine Pure.drew ?_ | refine Pure.alloc ?_ _ | refine Pure.setCell ?_ (by simp <;> omega) _)) m1, keepP (by repeat (first | assumption | exact Pure.refl _ | refine Pure.drewN ?_ _ | refine Pure.drew ?_ | refine Pure.alloc ?_ _ | refine Pure.setCell ?_ (by simp <;> omega) _)) g0, keepP (by repeat (first | assumption | exact Pure.refl _ | refine Pure.drewN ?_ _ | refine Pure.drew ?_ | refine Pure.alloc ?_ _ | refine Pure.setCell ?_ (by simp <;> omega) _)) c0, keepP (by repeat (first | assumption | exact Pure.refl _ | refine Pure.drewN ?_ _ | refine Pure.drew ?_ | refine Pure.alloc ?_ _ | refine Pure.setCell ?_ (by simp <;> omega) _)) c1, keepP (by repeat (first | assumption | exact Pure.refl _ | refine Pure.drewN ?_ _ | refine Pure.drew ?_ | refine Pure.alloc ?_ _ | refine Pure.setCell ?_ (by simp <;> omega) _)) c2, keepP (by repeat (first | assumption | exact Pure.refl _ | refine Pure.drewN ?_ _ | refine Pure.drew ?_ | refine Pure.alloc ?_ _ | refine Pure.setCell ?_ (by simp <;> omega) _)) c3⟩) ?_
          unfold Tail
          go_wp2
          refine And.intro (by exact ⟨keepP (by repeat (first | assumption | exact Pure.refl _ | refine Pure.drewN ?_ _ | refine Pure.drew ?_ | refine Pure.alloc ?_ _ | refine Pure.setCell ?_ (by simp <;> omega) _)) p0, keepP (by repeat (first | assumption | exact Pure.refl _ | refine Pure.drewN ?_ _ | refine Pure.drew ?_ | refine Pure.alloc ?_ _ | refine Pure.setCell ?_ (by simp <;> omega) _)) m0, keepP (by repeat (first | assumption | exact Pure.refl _ | refine Pure.drewN ?_ _ | refine Pure.drew ?_ | refine Pure.alloc ?_ _ | refine Pure.setCell ?_ (by simp <;> omega) _)) m1, keepP (by repeat (first | assumption | exact Pure.refl _ | refine Pure.drewN ?_ _ | refine Pure.drew ?_ | refine Pure.alloc ?_ _ | refine Pure.setCell ?_ (by simp <;> omega) _)) g0, keepP (by repeat (first | assumption | exact Pure.refl _ | refine Pure.drewN ?_ _ | refine Pure.drew ?_ | refine Pure.alloc ?_ _ | refine Pure.setCell ?_ (by simp <;> omega) _)) c0, keepP (by repeat (first | assumption | exact Pure.refl _ | refine Pure.drewN ?_ _ | refine Pure.drew ?_ | refine Pure.alloc ?_ _ | refine Pure.setCell ?_ (by simp <;> omega) _)) c1, keepP (by repeat (first | assumption | exact Pure.refl _ | refine Pure.drewN ?_ _ | refine Pure.drew ?_ | refine Pure.alloc ?_ _ | refine Pure.setCell ?_ (by simp <;> omega) _)) c2, keepP (by repeat (first | assumption | exact Pure.refl _ | refine Pure.drewN ?_ _ | refine Pure.drew ?_ | refine Pure.alloc ?_ _ | refine Pure.setCell ?_ (by simp <;> omega) _)) c3⟩) ?_
          unfold Tail
          go_wp2_with fail
          refine (iexec_any o _ vb2 va2 (beat k mask s') k mask ⟨op, ca, cb, cc⟩ HV.out (HR2.out.keep (by exact (by repeat (first | assumption | exact Pure.refl _ | refine Pure.drewN ?_ _ | refine Pure.drew ?_ | refine Pure.alloc ?_ _ | refine Pure.setCell ?_ (by simp <;> omega) _)))) hk Hcd.out HPL.out HMASK.out (by have := Hco.out; have := HB1.out; unfold msz at *; omega) (by have := Hco.out; have := HB1.out; unfold msz at *; omega)).mono ?_
          rintro e w3 ⟨rfl, vb3, va3, hr3, hs3⟩
          have H3 := Lib.hid hr3
          have H3s := Lib.hid (HST2.out.trans ((OStep.of_pure (by exact (by repeat (first | assumption | exact Pure.refl _ | refine Pure.drewN ?_ _ | refine Pure.drew ?_ | refine Pure.alloc ?_ _ | refine Pure.setCell ?_ (by simp <;> omega) _)))).trans hs3))
          clear hr3 hs3
          go_wp2_with fail
          go_roundg tk.len
          case measure => have := Hgk.out; have := Tr.len_op ⟨op, ca, cb, cc⟩ tk; omega
          case rel =>
            have hx := execM_msz ⟨op, ca, cb, cc⟩ (n := o.rm.n) (m := o.rm.m) (mask := mask) (beat k mask s') hn8
            exact ⟨tk, k + 1, _, vb3, va3, rfl, by have := Hto.out; have := Tr.len_op ⟨op, ca, cb, cc⟩ tk; omega, by have := Htl.out; have := Tr.len_op ⟨op, ca, cb, cc⟩ tk; omega, by go_num, Hok.out.2, Hseg.out.op.2.2, by have h1 := Hco.out; have h2 := HB1.out; simp only [Tr.cost] at h1; omega, H3.out, H3s.out, by rw [← Hrun.out]; show _ = (if mask = 0 then _ else _ : LS); rw [if_neg HM0.out]; rfl⟩
        | ite a t1 tk =>
          have hce : (⟨op, ca, cb, cc⟩ : Cd) = cIf a := Hcd.out.symm.trans Hseg.out.ite.1
          injection hce with e1 e2 e3 e4
          subst e1 e2 e3 e4
          obtain ⟨ha0, ha3⟩ := Hok.out.1
          obtain ⟨an, rfl⟩ := Int.eq_ofNat_of_zero_le ha0
          have han : an < 4 := by omega
          have hend := (end_ite Hok.out Hseg.out).1
          have hopn : Opens (o.cs.getD k default) := by rw [Hcd.out]; exact .inl rfl
          obtain ⟨gb, gw0, hgb, e0, e1, e2⟩ := HOWN.out.1 k (by unfold ownOf; rw [if_pos hopn]) hk hopn
          obtain ⟨en, Hen⟩ : ∃ en, Hid (k + 1 + t1.len = en) := ⟨_, rfl⟩
          rw [Hen.out] at hend
          rw [hend] at e1 e2
          have E1 := Lib.hid e1
          have E2 := Lib.hid e2
          clear e1 e2 hend
          have g0 := keepP HR2.out.pure gw0
          clear e0 gw0 hopn
          go_wp2_with fail
          refine region_heldF (fun w' => w'.cell? ⟨o.p, 0, none⟩ = some (.pointer (some ⟨o.pm, 0, none⟩)) ∧ w'.cell? ⟨o.pm, 0, none⟩ = some (.slice (some ⟨b, ob, none⟩) o.cs.length cA) ∧ w'.cell? ⟨o.pm, 1, none⟩ = some (.slice (some ⟨bo, oo, none⟩) o.cs.length co) ∧ w'.cell? ⟨bo, oo + k, none⟩ = some (.pointer (some ⟨gb, 0, none⟩)) ∧ w'.cell? ⟨b, ob + k * 4, none⟩ = some (.int .i64 11) ∧ w'.cell? ⟨b, ob + k * 4 + 1, none⟩ = some (.int .i64 an) ∧ w'.cell? ⟨b, ob + k * 4 + 2, none⟩ = some (.int .i64 0) ∧ w'.cell? ⟨b, ob + k * 4 + 3, none⟩ = some (.int .i64 0))
            (List.range 20) [20, 21, 22] (fun l => List.take 20 l) (fun l => List.drop 20 l) (by kernel_rfl) (by kernel_rfl) (by kernel_rfl) (by kernel_rfl) (fun c a d v w h => by cases d <;> exact h) (by exact ⟨p0, m0, m1, g0, c0, c1, c2, c3⟩) ?_
          simp only [List.take_succ_cons, List.take_zero, List.drop_succ_cons, List.drop_zero]
          iterate 20
            apply held_of
            · exact rfl
            · intro w' hS
              obtain ⟨s0, s1, s2, s3, s4, s5, s6, s7⟩ := hS
              go_simp
              try exact rfl
            try go_simp
          refine held_nil ?_
          unfold Tail
          go_wp2
          refine And.intro (by exact ⟨keepP (by repeat (first | assumption | exact Pure.refl _ | refine Pure.drewN ?_ _ | refine Pure.drew ?_ | refine Pure.alloc ?_ _ | refine Pure.setCell ?_ (by simp <;> omega) _)) p0, keepP (by repeat (first | assumption | exact Pure.refl _ | refine Pure.drewN ?_ _ | refine Pure.drew ?_ | refine Pure.alloc ?_ _ | refine Pure.setCell ?_ (by simp <;> omega) _)) m0, keepP (by repeat (first | assumption | exact Pure.refl _ | refine Pure.drewN ?_ _ | refine Pure.drew ?_ | refine Pure.alloc ?_ _ | refine Pure.setCell ?_ (by simp <;> omega) _)) m1, keepP (by repeat (first | assumption | exact Pure.refl _ | refine Pure.drewN ?_ _ | refine Pure.drew ?_ | refine Pure.alloc ?_ _ | refine Pure.setCell ?_ (by simp <;> omega) _)) g0, keepP (by repeat (first | assumption | exact Pure.refl _ | refine Pure.drewN ?_ _ | refine Pure.drew ?_ | refine Pure.alloc ?_ _ | refine Pure.setCell ?_ (by simp <;> omega) _)) c0, keepP (by repeat (first | assumption | exact Pure.refl _ | refine Pure.drewN ?_ _ | refine Pure.drew ?_ | refine Pure.alloc ?_ _ | refine Pure.setCell ?_ (by simp <;> omega) _)) c1, keepP (by repeat (first | assumption | exact Pure.refl _ | refine Pure.drewN ?_ _ | refine Pure.drew ?_ | refine Pure.alloc ?_ _ | refine Pure.setCell ?_ (by simp <;> omega) _)) c2, keepP (by repeat (first | assumption | exact Pure.refl _ | refine Pure.drewN ?_ _ | refine Pure.drew ?_ | refine Pure.alloc ?_ _ | refine Pure.setCell ?_ (by simp <;> omega) _)) c3⟩) ?_
          unfold Tail
          go_wp2
          refine And.intro (by exact ⟨keepP (by repeat (first | assumption | exact Pure.refl _ | refine Pure.drewN ?_ _ | refine Pure.drew ?_ | refine Pure.alloc ?_ _ | refine Pure.setCell ?_ (by simp <;> omega) _)) p0, keepP (by repeat (first | assumption | exact Pure.refl _ | refine Pure.drewN ?_ _ | refine Pure.drew ?_ | refine Pure.alloc ?_ _ | refine Pure.setCell ?_ (by simp <;> omega) _)) m0, keepP (by repeat (first | assumption | exact Pure.refl _ | refine Pure.drewN ?_ _ | refine Pure.drew ?_ | refine Pure.alloc ?_ _ | refine Pure.setCell ?_ (by simp <;> omega) _)) m1, keepP (by repeat (first | assumption | exact Pure.refl _ | refine Pure.drewN ?_ _ | refine Pure.drew ?_ | refine Pure.alloc ?_ _ | refine Pure.setCell ?_ (by simp <;> omega) _)) g0, keepP (by repeat (first | assumption | exact Pure.refl _ | refine Pure.drewN ?_ _ | refine Pure.drew ?_ | refine Pure.alloc ?_ _ | refine Pure.setCell ?_ (by simp <;> omega) _)) c0, keepP (by repeat (first | assumption | exact Pure.refl _ | refine Pure.drewN ?_ _ | refine Pure.drew ?_ | refine Pure.alloc ?_ _ | refine Pure.setCell ?_ (by simp <;> omega) _)) c1, keepP (by repeat (first | assumption | exact Pure.refl _ | refine Pure.drewN ?_ _ | refine Pure.drew ?_ | refine Pure.alloc ?_ _ | refine Pure.setCell ?_ (by simp <;> omega) _)) c2, keepP (by repeat (first | assumption | exact Pure.refl _ | refine Pure.drewN ?_ _ | refine Pure.drew ?_ | refine Pure.alloc ?_ _ | refine Pure.setCell ?_ (by simp <;> omega) _)) c3⟩) ?_
          unfold Tail
          go_wp2_with fail
          refine (iact_any o _ vb2 va2 _ s'.R s'.M mask an (HR2.out.obj.pure (by exact (by repeat (first | assumption | exact Pure.refl _ | refine Pure.drewN ?_ _ | refine Pure.drew ?_ | refine Pure.alloc ?_ _ | refine Pure.setCell ?_ (by simp <;> omega) _)))) (HR2.out.rm.pure (by exact (by repeat (first | assumption | exact Pure.refl _ | refine Pure.drewN ?_ _ | refine Pure.drew ?_ | refine Pure.alloc ?_ _ | refine Pure.setCell ?_ (by simp <;> omega) _)))) HMASK.out han).mono ?_
          rintro e w3 ⟨rfl, hp3⟩
          have hp23 : Pure w2 w3 := Pure.trans (by exact (by repeat (first | assumption | exact Pure.refl _ | refine Pure.drewN ?_ _ | refine Pure.drew ?_ | refine Pure.alloc ?_ _ | refine Pure.setCell ?_ (by simp <;> omega) _))) hp3
          have HR3 := Lib.hid (HR2.out.keep hp23)
          have HST3 := Lib.hid (HST2.out.trans (OStep.of_pure hp23))
          obtain ⟨y, Hy⟩ : ∃ y, Hid (onesTo s'.R mask an o.rm.n = y) := ⟨_, rfl⟩
          have hy : y < 2 ^ o.rm.n := by rw [← Hy.out]; exact onesTo_lt _ _ _ _
          have hy256 := Nat.lt_of_lt_of_le hy (powI hn8)
          have HYM := Lib.hid hy
          rw [Hy.out]
          have q1 := keepP HR3.out.pure E1.out
          have q2 := keepP HR3.out.pure E2.out
          clear hy hp3 hp23 p0 m0 m1 g0 c0 c1 c2 c3
          have hen1 : en < o.cs.length := by rw [← Hen.out]; exact Hseg.out.ite.2.2.2.1
          have HL := Lib.hid (Tr.len_ite (an : Int) t1 tk)
          have HCC : Hid (msz s' + 10 * (1 + t1.cost + tk.cost) ≤ 1099511627000) := Hco
          have hc1 := Lib.hid (run_msz o.rm.n o.rm.m hn8 t1 (k + 1) y (beat k mask s'))
          go_wp2_with fail
          refine (HIH.out t1 (k + 1) y (beat k mask s') vb2 va2 _ _ _ (by have := HL.out; have := HSZ.out; have := Htl.out; omega) Hok.out.2.1 Hseg.out.ite.2.1 (by have := Hen.out;  omega) HYM.out (by have h1 := HCC.out; have h2 := HB1.out; omega) (by have h := UH.ite HUR.out HM0.out; rw [Int.toNat_natCast, Hy.out] at h; exact h) HR3.out (by omega) (by have := Hen.out;  omega)).mono ?_
          rintro e w4 ⟨rfl, vb4, va4, hr4, hs4⟩
          have H4 := Lib.hid hr4
          have H4s := Lib.hid (HST3.out.trans hs4)
          have q2 := keepP hr4.pure E2.out
          clear hr4 hs4 q1
          go_wp2_with fail
          go_roundg tk.len
          case measure => have := Hgk.out; have := HL.out; omega
          case rel =>
            exact ⟨tk, en + 1, _, vb4, va4, rfl, by have := Hto.out; have := HL.out; have := Hen.out; omega, by have := Htl.out; have := HL.out; omega, by go_num, Hok.out.2.2, by rw [← Hen.out]; exact Hseg.out.ite.2.2.2.2, by have h1 := HCC.out; have h2 := HB1.out; have h3 := hc1.out; omega, H4.out, H4s.out, by rw [← Hrun.out, ← Hen.out]; show _ = (if mask = 0 then _ else _ : LS); rw [if_neg HM0.out, Int.toNat_natCast, Hy.out]⟩
        | itee a t1 t2 tk =>
          have hce : (⟨op, ca, cb, cc⟩ : Cd) = cIf a := Hcd.out.symm.trans Hseg.out.itee.1
          injection hce with e1 e2 e3 e4
          subst e1 e2 e3 e4
          obtain ⟨ha0, ha3⟩ := Hok.out.1
          obtain ⟨an, rfl⟩ := Int.eq_ofNat_of_zero_le ha0
          have han : an < 4 := by omega
          have hend := (end_itee Hok.out Hseg.out).1
          have hopn : Opens (o.cs.getD k default) := by rw [Hcd.out]; exact .inl rfl
          obtain ⟨gb, gw0, hgb, e0, e1, e2⟩ := HOWN.out.1 k (by unfold ownOf; rw [if_pos hopn]) hk hopn
          obtain ⟨on, Hon⟩ : ∃ on, Hid (k + 1 + t1.len = on) := ⟨_, rfl⟩
          obtain ⟨en, Hen⟩ : ∃ en, Hid (k + 1 + t1.len + 1 + t2.len = en) := ⟨_, rfl⟩
          rw [Hen.out, Hon.out] at hend
          rw [hend] at e1 e2
          have E1 := Lib.hid e1
          have E2 := Lib.hid e2
          clear e1 e2 hend
          have g0 := keepP HR2.out.pure gw0
          clear e0 gw0 hopn
          go_wp2_with fail
          refine region_heldF (fun w' => w'.cell? ⟨o.p, 0, none⟩ = some (.pointer (some ⟨o.pm, 0, none⟩)) ∧ w'.cell? ⟨o.pm, 0, none⟩ = some (.slice (some ⟨b, ob, none⟩) o.cs.length cA) ∧ w'.cell? ⟨o.pm, 1, none⟩ = some (.slice (some ⟨bo, oo, none⟩) o.cs.length co) ∧ w'.cell? ⟨bo, oo + k, none⟩ = some (.pointer (some ⟨gb, 0, none⟩)) ∧ w'.cell? ⟨b, ob + k * 4, none⟩ = some (.int .i64 11) ∧ w'.cell? ⟨b, ob + k * 4 + 1, none⟩ = some (.int .i64 an) ∧ w'.cell? ⟨b, ob + k * 4 + 2, none⟩ = some (.int .i64 0) ∧ w'.cell? ⟨b, ob + k * 4 + 3, none⟩ = some (.int .i64 0))
            (List.range 20) [20, 21, 22] (fun l => List.take 20 l) (fun l => List.drop 20 l) (by kernel_rfl) (by kernel_rfl) (by kernel_rfl) (by kernel_rfl) (fun c a d v w h => by cases d <;> exact h) (by exact ⟨p0, m0, m1, g0, c0, c1, c2, c3⟩) ?_
          simp only [List.take_succ_cons, List.take_zero, List.drop_succ_cons, List.drop_zero]
          iterate 20
            apply held_of
            · exact rfl
            · intro w' hS
              obtain ⟨s0, s1, s2, s3, s4, s5, s6, s7⟩ := hS
              go_simp
              try exact rfl
            try go_simp
          refine held_nil ?_
          unfold Tail
          go_wp2
          refine And.intro (by exact ⟨keepP (by repeat (first | assumption | exact Pure.refl _ | refine Pure.drewN ?_ _ | refine Pure.drew ?_ | refine Pure.alloc ?_ _ | refine Pure.setCell ?_ (by simp <;> omega) _)) p0, keepP (by repeat (first | assumption | exact Pure.refl _ | refine Pure.drewN ?_ _ | refine Pure.drew ?_ | refine Pure.alloc ?_ _ | refine Pure.setCell ?_ (by simp <;> omega) _)) m0, keepP (by repeat (first | assumption | exact Pure.refl _ | refine Pure.drewN ?_ _ | refine Pure.drew ?_ | refine Pure.alloc ?_ _ | refine Pure.setCell ?_ (by simp <;> omega) _)) m1, keepP (by repeat (first | assumption | exact Pure.refl _ | refine Pure.drewN ?_ _ | refine Pure.drew ?_ | refine Pure.alloc ?_ _ | refine Pure.setCell ?_ (by simp <;> omega) _)) g0, keepP (by repeat (first | assumption | exact Pure.refl _ | refine Pure.drewN ?_ _ | refine Pure.drew ?_ | refine Pure.alloc ?_ _ | refine Pure.setCell ?_ (by simp <;> omega) _)) c0, keepP (by repeat (first | assumption | exact Pure.refl _ | refine Pure.drewN ?_ _ | refine Pure.drew ?_ | refine Pure.alloc ?_ _ | refine Pure.setCell ?_ (by simp <;> omega) _)) c1, keepP (by repeat (first | assumption | exact Pure.refl _ | refine Pure.drewN ?_ _ | refine Pure.drew ?_ | refine Pure.alloc ?_ _ | refine Pure.setCell ?_ (by simp <;> omega) _)) c2, keepP (by repeat (first | assumption | exact Pure.refl _ | refine Pure.drewN ?_ _ | refine Pure.drew ?_ | refine Pure.alloc ?_ _ | refine Pure.setCell ?_ (by simp <;> omega) _)) c3⟩) ?_
          unfold Tail
          go_wp2
          refine And.intro (by exact ⟨keepP (by repeat (first | assumption | exact Pure.refl _ | refine Pure.drewN ?_ _ | refine Pure.drew ?_ | refine Pure.alloc ?_ _ | refine Pure.setCell ?_ (by simp <;> omega) _)) p0, keepP (by repeat (first | assumption | exact Pure.refl _ | refine Pure.drewN ?_ _ | refine Pure.drew ?_ | refine Pure.alloc ?_ _ | refine Pure.setCell ?_ (by simp <;> omega) _)) m0, keepP (by repeat (first | assumption | exact Pure.refl _ | refine Pure.drewN ?_ _ | refine Pure.drew ?_ | refine Pure.alloc ?_ _ | refine Pure.setCell ?_ (by simp <;> omega) _)) m1, keepP (by repeat (first | assumption | exact Pure.refl _ | refine Pure.drewN ?_ _ | refine Pure.drew ?_ | refine Pure.alloc ?_ _ | refine Pure.setCell ?_ (by simp <;> omega) _)) g0, keepP (by repeat (first | assumption | exact Pure.refl _ | refine Pure.drewN ?_ _ | refine Pure.drew ?_ | refine Pure.alloc ?_ _ | refine Pure.setCell ?_ (by simp <;> omega) _)) c0, keepP (by repeat (first | assumption | exact Pure.refl _ | refine Pure.drewN ?_ _ | refine Pure.drew ?_ | refine Pure.alloc ?_ _ | refine Pure.setCell ?_ (by simp <;> omega) _)) c1, keepP (by repeat (first | assumption | exact Pure.refl _ | refine Pure.drewN ?_ _ | refine Pure.drew ?_ | refine Pure.alloc ?_ _ | refine Pure.setCell ?_ (by simp <;> omega) _)) c2, keepP (by repeat (first | assumption | exact Pure.refl _ | refine Pure.drewN ?_ _ | refine Pure.drew ?_ | refine Pure.alloc ?_ _ | refine Pure.setCell ?_ (by simp <;> omega) _)) c3⟩) ?_
          unfold Tail
          go_wp2_with fail
          refine (iact_any o _ vb2 va2 _ s'.R s'.M mask an (HR2.out.obj.pure (by exact (by repeat (first | assumption | exact Pure.refl _ | refine Pure.drewN ?_ _ | refine Pure.drew ?_ | refine Pure.alloc ?_ _ | refine Pure.setCell ?_ (by simp <;> omega) _)))) (HR2.out.rm.pure (by exact (by repeat (first | assumption | exact Pure.refl _ | refine Pure.drewN ?_ _ | refine Pure.drew ?_ | refine Pure.alloc ?_ _ | refine Pure.setCell ?_ (by simp <;> omega) _)))) HMASK.out han).mono ?_
          rintro e w3 ⟨rfl, hp3⟩
          have hp23 : Pure w2 w3 := Pure.trans (by exact (by repeat (first | assumption | exact Pure.refl _ | refine Pure.drewN ?_ _ | refine Pure.drew ?_ | refine Pure.alloc ?_ _ | refine Pure.setCell ?_ (by simp <;> omega) _))) hp3
          have HR3 := Lib.hid (HR2.out.keep hp23)
          have HST3 := Lib.hid (HST2.out.trans (OStep.of_pure hp23))
          obtain ⟨y, Hy⟩ : ∃ y, Hid (onesTo s'.R mask an o.rm.n = y) := ⟨_, rfl⟩
          have hy : y < 2 ^ o.rm.n := by rw [← Hy.out]; exact onesTo_lt _ _ _ _
          have hy256 := Nat.lt_of_lt_of_le hy (powI hn8)
          have HYM := Lib.hid hy
          rw [Hy.out]
          have q1 := keepP HR3.out.pure E1.out
          have q2 := keepP HR3.out.pure E2.out
          clear hy hp3 hp23 p0 m0 m1 g0 c0 c1 c2 c3
          have hen1 : en < o.cs.length := by rw [← Hen.out]; exact Hseg.out.itee.2.2.2.2.2.1
          have hon1 : on < en := by have := Hen.out; have := Hon.out; omega
          have HL := Lib.hid (Tr.len_itee (an : Int) t1 t2 tk)
          have HCC : Hid (msz s' + 10 * (1 + t1.cost + t2.cost + tk.cost) ≤ 1099511627000) := Hco
          have hc1 := Lib.hid (run_msz o.rm.n o.rm.m hn8 t1 (k + 1) y (beat k mask s'))
          go_wp2_with fail
          refine (HIH.out t1 (k + 1) y (beat k mask s') vb2 va2 _ _ _ (by have := HL.out; have := HSZ.out; have := Htl.out; omega) Hok.out.2.1 Hseg.out.itee.2.1 (by have := Hen.out; have := Hon.out; omega) HYM.out (by have h1 := HCC.out; have h2 := HB1.out; omega) (by have h := (UH.itee HUR.out HM0.out).1; rw [Int.toNat_natCast, Hy.out] at h; exact h) HR3.out (by omega) (by have := Hen.out; have := Hon.out; omega)).mono ?_
          rintro e w4 ⟨rfl, vb4, va4, hr4, hs4⟩
          have H4 := Lib.hid hr4
          have H4s := Lib.hid (HST3.out.trans hs4)
          have q1 := keepP hr4.pure E1.out
          have q2 := keepP hr4.pure E2.out
          obtain ⟨d, Hd⟩ : ∃ d, Hid (del mask y = d) := ⟨_, rfl⟩
          have hdel : bits .andNot .i64 (mask : Int) (y : Int) = (d : Int) := by rw [bits_andNot (by omega) (by omega)]; exact congrArg _ Hd.out
          have HDM : Hid (d < 2 ^ o.rm.n) := Lib.hid (by rw [← Hd.out]; exact del_lt2 y HMASK.out)
          have hc2 := Lib.hid (run_msz o.rm.n o.rm.m hn8 t2 (on + 1) d (run o.rm.n o.rm.m t1 (k + 1) y (beat k mask s')))
          clear hr4 hs4
          go_wp2_with fail
          refine region_tail 13 (by kernel_rfl) (by kernel_rfl) ?_
          simp only [List.take_succ_cons, List.take_zero, List.drop_succ_cons, List.drop_zero]
          repeat still_step
          refine wpStill_nil ?_
          go_wp2_with fail
          refine (HIH.out t2 (on + 1) d (run o.rm.n o.rm.m t1 (k + 1) y (beat k mask s')) vb4 va4 _ _ _ (by have := HL.out; have := HSZ.out; have := Htl.out; omega) Hok.out.2.2.1 (by rw [← Hon.out]; exact Hseg.out.itee.2.2.2.1) (by have := Hen.out; have := Hon.out; omega) HDM.out (by have h1 := HCC.out; have h2 := HB1.out; have h3 := hc1.out; omega) (by have h := (UH.itee HUR.out HM0.out).2; rw [Int.toNat_natCast, Hy.out, Hd.out, Hon.out] at h; exact h) (H4.out.keep (by exact (by repeat (first | assumption | exact Pure.refl _ | refine Pure.drewN ?_ _ | refine Pure.drew ?_ | refine Pure.alloc ?_ _ | refine Pure.setCell ?_ (by simp <;> omega) _)))) (by omega) (by have := Hen.out; have := Hon.out; omega)).mono ?_
          rintro e w5 ⟨rfl, vb5, va5, hr5, hs5⟩
          have H5 := Lib.hid hr5
          have H5s := Lib.hid ((H4s.out.trans (OStep.of_pure (show Pure w4 w4.drew from (by repeat (first | assumption | exact Pure.refl _ | refine Pure.drewN ?_ _ | refine Pure.drew ?_ | refine Pure.alloc ?_ _ | refine Pure.setCell ?_ (by simp <;> omega) _))))).trans hs5)
          have q2 := keepP hr5.pure E2.out
          clear hr5 hs5 q1
          go_wp2_with fail
          go_roundg tk.len
          case measure => have := Hgk.out; have := HL.out; omega
          case rel =>
            exact ⟨tk, en + 1, _, vb5, va5, rfl, by have := Hto.out; have := HL.out; have := Hen.out; omega, by have := Htl.out; have := HL.out; omega, by go_num, Hok.out.2.2.2, by rw [← Hen.out]; exact Hseg.out.itee.2.2.2.2.2.2, by have h1 := HCC.out; have h2 := HB1.out; have h3 := hc1.out; have h4 := hc2.out; omega, H5.out, H5s.out, by rw [← Hrun.out, ← Hen.out, ← Hon.out]; show _ = (if mask = 0 then _ else _ : LS); rw [if_neg HM0.out, Int.toNat_natCast, Hy.out, Hd.out]⟩
        | loop a lb t1 tk =>
          have hce : (⟨op, ca, cb, cc⟩ : Cd) = cLoop a lb := Hcd.out.symm.trans Hseg.out.loop.1
          injection hce with e1 e2 e3 e4
          subst e1 e2 e3 e4
          obtain ⟨ha0, ha3⟩ := Hok.out.1
          obtain ⟨an, rfl⟩ := Int.eq_ofNat_of_zero_le ha0
          have han : an < 4 := by omega
          have hend := (end_loop Hok.out Hseg.out).1
          have hopn : Opens (o.cs.getD k default) := by rw [Hcd.out]; exact .inr rfl
          obtain ⟨gb, gw0, hgb, e0, e1, e2⟩ := HOWN.out.1 k (by unfold ownOf; rw [if_pos hopn]) hk hopn
          obtain ⟨hb1, hb4⟩ := Hok.out.2.1
          obtain ⟨bn, rfl⟩ := Int.eq_ofNat_of_zero_le (show (0 : Int) ≤ cb by omega)
          obtain ⟨en, Hen⟩ : ∃ en, Hid (k + 1 + t1.len = en) := ⟨_, rfl⟩
          rw [Hen.out] at hend
          rw [hend] at e1 e2
          have E1 := Lib.hid e1
          have E2 := Lib.hid e2
          clear e1 e2 hend
          have g0 := keepP HR2.out.pure gw0
          clear e0 gw0 hopn
          go_wp2_with fail
          refine region_heldF (fun w' => w'.cell? ⟨o.p, 0, none⟩ = some (.pointer (some ⟨o.pm, 0, none⟩)) ∧ w'.cell? ⟨o.pm, 0, none⟩ = some (.slice (some ⟨b, ob, none⟩) o.cs.length cA) ∧ w'.cell? ⟨o.pm, 1, none⟩ = some (.slice (some ⟨bo, oo, none⟩) o.cs.length co) ∧ w'.cell? ⟨bo, oo + k, none⟩ = some (.pointer (some ⟨gb, 0, none⟩)) ∧ w'.cell? ⟨b, ob + k * 4, none⟩ = some (.int .i64 13) ∧ w'.cell? ⟨b, ob + k * 4 + 1, none⟩ = some (.int .i64 an) ∧ w'.cell? ⟨b, ob + k * 4 + 2, none⟩ = some (.int .i64 bn) ∧ w'.cell? ⟨b, ob + k * 4 + 3, none⟩ = some (.int .i64 0))
            (List.range 20) [20, 21, 22] (fun l => List.take 20 l) (fun l => List.drop 20 l) (by kernel_rfl) (by kernel_rfl) (by kernel_rfl) (by kernel_rfl) (fun c a d v w h => by cases d <;> exact h) (by exact ⟨p0, m0, m1, g0, c0, c1, c2, c3⟩) ?_
          simp only [List.take_succ_cons, List.take_zero, List.drop_succ_cons, List.drop_zero]
          iterate 20
            apply held_of
            · exact rfl
            · intro w' hS
              obtain ⟨s0, s1, s2, s3, s4, s5, s6, s7⟩ := hS
              go_simp
              try exact rfl
            try go_simp
          refine held_nil ?_
          unfold Tail
          go_wp2
          refine And.intro (by exact ⟨keepP (by repeat (first | assumption | exact Pure.refl _ | refine Pure.drewN ?_ _ | refine Pure.drew ?_ | refine Pure.alloc ?_ _ | refine Pure.setCell ?_ (by simp <;> omega) _)) p0, keepP (by repeat (first | assumption | exact Pure.refl _ | refine Pure.drewN ?_ _ | refine Pure.drew ?_ | refine Pure.alloc ?_ _ | refine Pure.setCell ?_ (by simp <;> omega) _)) m0, keepP (by repeat (first | assumption | exact Pure.refl _ | refine Pure.drewN ?_ _ | refine Pure.drew ?_ | refine Pure.alloc ?_ _ | refine Pure.setCell ?_ (by simp <;> omega) _)) m1, keepP (by repeat (first | assumption | exact Pure.refl _ | refine Pure.drewN ?_ _ | refine Pure.drew ?_ | refine Pure.alloc ?_ _ | refine Pure.setCell ?_ (by simp <;> omega) _)) g0, keepP (by repeat (first | assumption | exact Pure.refl _ | refine Pure.drewN ?_ _ | refine Pure.drew ?_ | refine Pure.alloc ?_ _ | refine Pure.setCell ?_ (by simp <;> omega) _)) c0, keepP (by repeat (first | assumption | exact Pure.refl _ | refine Pure.drewN ?_ _ | refine Pure.drew ?_ | refine Pure.alloc ?_ _ | refine Pure.setCell ?_ (by simp <;> omega) _)) c1, keepP (by repeat (first | assumption | exact Pure.refl _ | refine Pure.drewN ?_ _ | refine Pure.drew ?_ | refine Pure.alloc ?_ _ | refine Pure.setCell ?_ (by simp <;> omega) _)) c2, keepP (by repeat (first | assumption | exact Pure.refl _ | refine Pure.drewN ?_ _ | refine Pure.drew ?_ | refine Pure.alloc ?_ _ | refine Pure.setCell ?_ (by simp <;> omega) _)) c3⟩) ?_
          unfold Tail
          go_wp2
          refine And.intro (by exact ⟨keepP (by repeat (first | assumption | exact Pure.refl _ | refine Pure.drewN ?_ _ | refine Pure.drew ?_ | refine Pure.alloc ?_ _ | refine Pure.setCell ?_ (by simp <;> omega) _)) p0, keepP (by repeat (first | assumption | exact Pure.refl _ | refine Pure.drewN ?_ _ | refine Pure.drew ?_ | refine Pure.alloc ?_ _ | refine Pure.setCell ?_ (by simp <;> omega) _)) m0, keepP (by repeat (first | assumption | exact Pure.refl _ | refine Pure.drewN ?_ _ | refine Pure.drew ?_ | refine Pure.alloc ?_ _ | refine Pure.setCell ?_ (by simp <;> omega) _)) m1, keepP (by repeat (first | assumption | exact Pure.refl _ | refine Pure.drewN ?_ _ | refine Pure.drew ?_ | refine Pure.alloc ?_ _ | refine Pure.setCell ?_ (by simp <;> omega) _)) g0, keepP (by repeat (first | assumption | exact Pure.refl _ | refine Pure.drewN ?_ _ | refine Pure.drew ?_ | refine Pure.alloc ?_ _ | refine Pure.setCell ?_ (by simp <;> omega) _)) c0, keepP (by repeat (first | assumption | exact Pure.refl _ | refine Pure.drewN ?_ _ | refine Pure.drew ?_ | refine Pure.alloc ?_ _ | refine Pure.setCell ?_ (by simp <;> omega) _)) c1, keepP (by repeat (first | assumption | exact Pure.refl _ | refine Pure.drewN ?_ _ | refine Pure.drew ?_ | refine Pure.alloc ?_ _ | refine Pure.setCell ?_ (by simp <;> omega) _)) c2, keepP (by repeat (first | assumption | exact Pure.refl _ | refine Pure.drewN ?_ _ | refine Pure.drew ?_ | refine Pure.alloc ?_ _ | refine Pure.setCell ?_ (by simp <;> omega) _)) c3⟩) ?_
          unfold Tail
          have hen1 : en < o.cs.length := by rw [← Hen.out]; exact Hseg.out.loop.2.2.2.1
          have HL := Lib.hid (Tr.len_loop (an : Int) (bn : Int) t1 tk)
          have HXW := Lib.hid (BoxI.alloc w2 ⟨13, an, bn, 0⟩)
          have HCC : Hid (msz s' + 10 * (1 + bn * t1.cost + tk.cost) ≤ 1099511627000) := Hco
          clear c0 c1 c2 c3 p0 m0 m1 g0
          go_wp2_with fail
          go_loopg [106, 12] bn (fun g2 i l wr => ∃ (j y2 : Nat) (s2 : LS) (vb5 va5 : Value), g2 + j = bn ∧ i = .int .i64 j ∧ l = .int .i64 y2 ∧ y2 < 2 ^ o.rm.n ∧ ORun o wr vb5 va5 s2 ∧ OStep o w2 vb2 va2 wr vb5 va5 ∧ BoxI wr w2.heap.size ⟨13, an, bn, 0⟩ ∧ ¬ o.own vb5 va5 w2.heap.size ∧ msz s2 + 10 * (g2 * t1.cost) + 10 * tk.cost ≤ 1099511627000 ∧ turns (run o.rm.n o.rm.m t1 (k + 1)) o.rm.n an bn mask (beat k mask s') = turns (run o.rm.n o.rm.m t1 (k + 1)) o.rm.n an g2 y2 s2)
          case atStart => exact ⟨0, mask, beat k mask s', vb2, va2, rfl, rfl, rfl, HMASK.out, HR2.out.keep (by exact (by repeat (first | assumption | exact Pure.refl _ | refine Pure.drewN ?_ _ | refine Pure.drew ?_ | refine Pure.alloc ?_ _ | refine Pure.setCell ?_ (by simp <;> omega) _))), OStep.of_pure (by exact (by repeat (first | assumption | exact Pure.refl _ | refine Pure.drewN ?_ _ | refine Pure.drew ?_ | refine Pure.alloc ?_ _ | refine Pure.setCell ?_ (by simp <;> omega) _))), HXW.out.pure (by exact (by repeat (first | assumption | exact Pure.refl _ | refine Pure.drewN ?_ _ | refine Pure.drew ?_ | refine Pure.alloc ?_ _ | refine Pure.setCell ?_ (by simp <;> omega) _))), HNO.out, by have h1 := HCC.out; have h2 := HB1.out; generalize bn * t1.cost = X at h1 ⊢; omega, rfl⟩
          case round =>
            obtain ⟨j, y2, s2, vb5, va5, hg2, rfl, rfl, hy2, hr5, hs5, hx5, hno5, hc5, ht5⟩ := hrel
            have Hg2 := Lib.hid hg2
            have HY2 := Lib.hid hy2
            have HR5 := Lib.hid hr5
            have HS5 := Lib.hid hs5
            have HX5 := Lib.hid hx5
            have HN5 := Lib.hid hno5
            have HC5 := Lib.hid hc5
            have HT5 := Lib.hid ht5
            have hjn : j ≤ bn := by omega
            have q2 := keepP hr5.pure E2.out
            have hby := hx5.lt
            obtain ⟨y0, y1, y2', y3⟩ := hx5
            clear hg2 hy2 hr5 hs5 hno5 hc5 ht5
            simp only at y0 y1 y2' y3
            by_cases hjb : j < bn
            · obtain ⟨g3, rfl⟩ : ∃ g3, gk = g3 + 1 := ⟨gk - 1, by have := Hg2.out; omega⟩
              have HC9 : Hid (msz s2 + 10 * (g3 * t1.cost + t1.cost) + 10 * tk.cost ≤ 1099511627000) := Lib.hid (by have h := HC5.out; rw [show (g3 + 1) * t1.cost = g3 * t1.cost + t1.cost from Nat.succ_mul g3 t1.cost] at h; exact h)
              go_wp2_with fail
              refine (iact_any o _ vb5 va5 _ s2.R s2.M y2 an HR5.out.obj HR5.out.rm HY2.out han).mono ?_
              rintro e w6 ⟨rfl, hp6⟩
              have HR6 := Lib.hid (HR5.out.keep hp6)
              have HX6 := Lib.hid (HX5.out.pure hp6)
              have HS6 := Lib.hid (HS5.out.trans (OStep.of_pure hp6))
              obtain ⟨yn, Hyn⟩ : ∃ yn, Hid (onesTo s2.R y2 an o.rm.n = yn) := ⟨_, rfl⟩
              have HYN : Hid (yn < 2 ^ o.rm.n) := Lib.hid (by rw [← Hyn.out]; exact onesTo_lt _ _ _ _)
              rw [Hyn.out]
              have hc1 := Lib.hid (run_msz o.rm.n o.rm.m hn8 t1 (k + 1) yn s2)
              have q3 := keepP HR6.out.pure E2.out
              clear hp6 q2 y0 y1 y2' y3
              go_wp2_with fail
              refine (HIH.out t1 (k + 1) yn s2 vb5 va5 _ _ _ (by have := HL.out; have := HSZ.out; have := Htl.out; omega) Hok.out.2.2.1 Hseg.out.loop.2.1 (by have := Hen.out;  omega) HYN.out (by have h := HC9.out; generalize g3 * t1.cost = X at h; omega) (by have h := UH.loop HUR.out HM0.out; rw [Int.toNat_natCast, Int.toNat_natCast, HT5.out, turns_succ, Hyn.out] at h; exact UH.turn h) HR6.out (by omega) (by have := Hen.out;  omega)).mono ?_
              rintro e w7 ⟨rfl, vb7, va7, hr7, hs7⟩
              have H7 := Lib.hid hr7
              have H7s := Lib.hid (HS6.out.trans hs7)
              have H7x := Lib.hid (HX6.out.step hs7 HN5.out)
              have H7n := Lib.hid (IObj.own_lies HN5.out hs7.2.1 hs7.2.2 HX6.out.lt)
              clear hr7 hs7
              go_wp2_with fail
              go_roundg g3
              case measure => omega
              case rel =>
                exact ⟨j + 1, yn, _, vb7, va7, by have := Hg2.out; omega, by go_num, rfl, HYN.out, H7.out, H7s.out, H7x.out, H7n.out, by have h := HC9.out; have h1 := hc1.out; generalize g3 * t1.cost = X at h ⊢; omega, by rw [HT5.out, turns_succ, Hyn.out]⟩
            · have hz : gk = 0 := by have := Hg2.out; omega
              have hfin : turns (run o.rm.n o.rm.m t1 (k + 1)) o.rm.n an bn mask (beat k mask s') = s2 := by rw [HT5.out, hz]; rfl
              have Hfin := Lib.hid hfin
              have HC3 : Hid (msz s2 + 10 * tk.cost ≤ 1099511627000) := Lib.hid (by have h := HC5.out; generalize gk * t1.cost = X at h; omega)
              clear hfin hz
              go_wp2_with fail
              go_roundg tk.len
              case measure => have := Hgk.out; have := HL.out; omega
              case rel =>
                exact ⟨tk, en + 1, _, vb5, va5, rfl, by have := Hto.out; have := HL.out; have := Hen.out; omega, by have := Htl.out; have := HL.out; omega, by go_num, Hok.out.2.2.2, by rw [← Hen.out]; exact Hseg.out.loop.2.2.2.2, HC3.out, HR5.out, HST2.out.trans HS5.out, by rw [← Hrun.out, ← Hen.out]; show _ = (if mask = 0 then _ else _ : LS); rw [if_neg HM0.out, Int.toNat_natCast, Int.toNat_natCast, Hfin.out]⟩

end Go.Proofs.Ytokdfgodmhekmaa

namespace Go.Proofs.Ytokdfgodmhekmaa
open Go.RowKit

/-- Behind one instruction. -/
def uCode (c : Cd) (u : Nat) : Nat := if c.op = 2 ∨ rd c &&& u ≠ rd c then del u (wst c) else u ||| wst c
/-- What a tree writes. -/
def writ : Tr → Nat
  | .nil => 0
  | .op c k => wst c ||| writ k
  | .ite _ t k => writ t ||| writ k
  | .itee _ t e k => (writ t ||| writ e) ||| writ k
  | .loop _ _ t k => writ t ||| writ k
def iter (f : Nat → Nat) : Nat → Nat → Nat
  | 0, h => h
  | n + 1, h => iter f n (f h)
/-- The set behind a tree, and the sets at its places. -/
def uni : Tr → Nat → Nat × List Nat
  | .nil, u => (u, [])
  | .op c k, u => ((uni k (uCode c u)).1, u :: (uni k (uCode c u)).2)
  | .ite a t k, u =>
    let v := if u.testBit a.toNat then u &&& (uni t u).1 else del u (writ t)
    ((uni k v).1, u :: ((uni t u).2 ++ 0 :: (uni k v).2))
  | .itee a t e k, u =>
    let v := if u.testBit a.toNat then (uni t u).1 &&& (uni e u).1 else del u (writ t ||| writ e)
    ((uni k v).1, u :: ((uni t u).2 ++ 0 :: ((uni e u).2 ++ 0 :: (uni k v).2)))
  | .loop a _ t k, u =>
    let h := iter (fun h => h &&& (uni t h).1) 16 u
    let v := if h.testBit a.toNat then h else del u (writ t)
    ((uni k v).1, u :: ((uni t h).2 ++ 0 :: (uni k v).2))
/-- One turn of a loop's search, and its end. -/
def uTurn (t : Tr) (h : Nat) : Nat := h &&& (uni t h).1
def uHead (t : Tr) (u : Nat) : Nat := iter (uTurn t) 16 u
/-- Behind an OpIf, an OpIf with an OpElse, an OpLoop. -/
def uIf (a : Int) (t : Tr) (u : Nat) : Nat := if u.testBit a.toNat then u &&& (uni t u).1 else del u (writ t)
def uIfe (a : Int) (t e : Tr) (u : Nat) : Nat := if u.testBit a.toNat then (uni t u).1 &&& (uni e u).1 else del u (writ t ||| writ e)
def uLoop (a : Int) (t : Tr) (u : Nat) : Nat := if (uHead t u).testBit a.toNat then uHead t u else del u (writ t)
theorem uni_nil (u : Nat) : uni .nil u = (u, []) := rfl
theorem uni_op (c : Cd) (k : Tr) (u : Nat) : uni (.op c k) u = ((uni k (uCode c u)).1, u :: (uni k (uCode c u)).2) := rfl
theorem uni_ite (a : Int) (t k : Tr) (u : Nat) : uni (.ite a t k) u = ((uni k (uIf a t u)).1, u :: ((uni t u).2 ++ 0 :: (uni k (uIf a t u)).2)) := rfl
theorem uni_itee (a : Int) (t e k : Tr) (u : Nat) : uni (.itee a t e k) u = ((uni k (uIfe a t e u)).1, u :: ((uni t u).2 ++ 0 :: ((uni e u).2 ++ 0 :: (uni k (uIfe a t e u)).2))) := rfl
theorem uni_loop (a b : Int) (t k : Tr) (u : Nat) : uni (.loop a b t k) u = ((uni k (uLoop a t u)).1, u :: ((uni t (uHead t u)).2 ++ 0 :: (uni k (uLoop a t u)).2)) := rfl

theorem uni_len : ∀ (t : Tr) (u : Nat), (uni t u).2.length = t.len
  | .nil, _ => rfl
  | .op c k, u => by rw [uni_op, Tr.len_op]; simp [uni_len k]
  | .ite a t k, u => by rw [uni_ite, Tr.len_ite]; simp [uni_len k, uni_len t]; omega
  | .itee a t e k, u => by rw [uni_itee, Tr.len_itee]; simp [uni_len k, uni_len t, uni_len e]; omega
  | .loop a b t k, u => by rw [uni_loop, Tr.len_loop]; simp [uni_len k, uni_len t]; omega

theorem Plain.cdok {c : Cd} (h : Plain c) : CdOk c := h.1
theorem del_lt' {a w : Nat} (ha : a < 16) : del a w < 16 := Nat.lt_of_le_of_lt (Sub.le (fun i hi => by rw [del_bit] at hi; simp at hi; exact hi.1)) ha
theorem uCode_lt {c : Cd} {u : Nat} (h : CdOk c) (hu : u < 16) : uCode c u < 16 := by
  unfold uCode
  split
  · exact del_lt' hu
  · exact or_lt hu (wr_lt h)
theorem writ_lt : ∀ (t : Tr), t.Ok → writ t < 16
  | .nil, _ => by decide
  | .op c k, h => or_lt (wr_lt h.1.1) (writ_lt k h.2)
  | .ite _ t k, h => or_lt (writ_lt t h.2.1) (writ_lt k h.2.2)
  | .itee _ t e k, h => or_lt (or_lt (writ_lt t h.2.1) (writ_lt e h.2.2.1)) (writ_lt k h.2.2.2)
  | .loop _ _ t k, h => or_lt (writ_lt t h.2.2.1) (writ_lt k h.2.2.2)
theorem and_lt16 {a b : Nat} (ha : a < 16) : a &&& b < 16 := Nat.lt_of_le_of_lt Nat.and_le_left ha
theorem uTurn_le (t : Tr) (h : Nat) : uTurn t h ≤ h := Nat.and_le_left
theorem iter_le {f : Nat → Nat} (hf : ∀ h, f h ≤ h) : ∀ n h, iter f n h ≤ h
  | 0, _ => Nat.le_refl _
  | n + 1, h => Nat.le_trans (iter_le hf n (f h)) (hf h)
theorem iter_stop {f : Nat → Nat} {h : Nat} (e : f h = h) : ∀ n, iter f n h = h
  | 0 => rfl
  | n + 1 => by show iter f n (f h) = h; rw [e]; exact iter_stop e n
theorem iter_succ (f : Nat → Nat) : ∀ n h, iter f (n + 1) h = f (iter f n h)
  | 0, _ => rfl
  | n + 1, h => iter_succ f n (f h)
theorem iter_fix {f : Nat → Nat} (hf : ∀ h, f h ≤ h) : ∀ n h, h ≤ n → f (iter f n h) = iter f n h
  | 0, h, hn => by
    have e : f h = h := by have := hf h; omega
    exact e
  | n + 1, h, hn => by
    by_cases e : f h = h
    · rw [iter_stop e]; exact e
    · exact iter_fix hf n (f h) (by have := hf h; omega)
theorem uHead_fix (t : Tr) {u : Nat} (hu : u < 16) : uTurn t (uHead t u) = uHead t u := iter_fix (uTurn_le t) 16 u (by omega)
theorem uHead_turn (t : Tr) {u : Nat} (hu : u < 16) : uHead t (uTurn t u) = uHead t u := by
  show iter (uTurn t) 17 u = _
  rw [iter_succ]
  exact uHead_fix t hu
theorem uHead_stop {t : Tr} {u : Nat} (h : uTurn t u = u) : uHead t u = u := iter_stop h 16
theorem uHead_le (t : Tr) (u : Nat) : uHead t u ≤ u := iter_le (uTurn_le t) 16 u
theorem uni_lt : ∀ (t : Tr) (u : Nat), t.Ok → u < 16 → (uni t u).1 < 16
  | .nil, _, _, hu => hu
  | .op c k, u, h, hu => by rw [uni_op]; exact uni_lt k _ h.2 (uCode_lt h.1.1 hu)
  | .ite a t k, u, h, hu => by
    rw [uni_ite]
    refine uni_lt k _ h.2.2 ?_
    unfold uIf
    split
    · exact and_lt16 hu
    · exact del_lt' hu
  | .itee a t e k, u, h, hu => by
    rw [uni_itee]
    refine uni_lt k _ h.2.2.2 ?_
    unfold uIfe
    split
    · exact and_lt16 (uni_lt t u h.2.1 hu)
    · exact del_lt' hu
  | .loop a b t k, u, h, hu => by
    rw [uni_loop]
    refine uni_lt k _ h.2.2.2 ?_
    unfold uLoop
    split
    · exact Nat.lt_of_le_of_lt (uHead_le t u) hu
    · exact del_lt' hu

/-- The table with a tree's sets laid into it; places of OpElse and OpEnd keep theirs. -/
def lay (cs : List Cd) (live : Nat → Nat) (i : Nat) (xs : List Nat) : Nat → Nat :=
  fun j => if (i ≤ j ∧ j < i + xs.length) ∧ (cs.getD j default).op ≠ 12 ∧ (cs.getD j default).op ≠ 14 then xs.getD (j - i) 0 else live j
theorem lay_nil (cs : List Cd) (live : Nat → Nat) (i : Nat) : lay cs live i [] = live := by
  funext j
  unfold lay
  rw [if_neg]
  rintro ⟨⟨h1, h2⟩, _⟩
  simp at h2
  omega
theorem lay_cons {cs : List Cd} {live : Nat → Nat} {i x : Nat} {xs : List Nat} (h1 : (cs.getD i default).op ≠ 12) (h2 : (cs.getD i default).op ≠ 14) :
    lay cs live i (x :: xs) = lay cs (updL live i x) (i + 1) xs := by
  funext j
  unfold lay updL
  by_cases e : j = i
  · subst e
    rw [if_pos ⟨⟨by omega, by simp⟩, h1, h2⟩, if_neg (by omega), if_pos rfl]
    simp
  · by_cases hr : (i + 1 ≤ j ∧ j < i + 1 + xs.length) ∧ (cs.getD j default).op ≠ 12 ∧ (cs.getD j default).op ≠ 14
    · rw [if_pos hr, if_pos ⟨⟨by omega, by simp; omega⟩, hr.2⟩]
      obtain ⟨d, rfl⟩ : ∃ d, j = i + 1 + d := ⟨j - (i + 1), by omega⟩
      rw [show i + 1 + d - i = d + 1 by omega, show i + 1 + d - (i + 1) = d by omega]
      rfl
    · rw [if_neg hr, if_neg (by rintro ⟨⟨q1, q2⟩, q3⟩; simp at q2; exact hr ⟨⟨by omega, by omega⟩, q3⟩), if_neg e]
theorem lay_skip {cs : List Cd} {live : Nat → Nat} {i x : Nat} {xs : List Nat} (h : (cs.getD i default).op = 12 ∨ (cs.getD i default).op = 14) :
    lay cs live i (x :: xs) = lay cs live (i + 1) xs := by
  funext j
  unfold lay
  by_cases e : j = i
  · subst e
    rw [if_neg (by rintro ⟨_, q1, q2⟩; rcases h with h | h; exact q1 h; exact q2 h), if_neg (by omega)]
  · by_cases hr : (i + 1 ≤ j ∧ j < i + 1 + xs.length) ∧ (cs.getD j default).op ≠ 12 ∧ (cs.getD j default).op ≠ 14
    · rw [if_pos hr, if_pos ⟨⟨by omega, by simp; omega⟩, hr.2⟩]
      obtain ⟨d, rfl⟩ : ∃ d, j = i + 1 + d := ⟨j - (i + 1), by omega⟩
      rw [show i + 1 + d - i = d + 1 by omega, show i + 1 + d - (i + 1) = d by omega]
      rfl
    · rw [if_neg hr, if_neg (by rintro ⟨⟨q1, q2⟩, q3⟩; simp at q2; exact hr ⟨⟨by omega, by omega⟩, q3⟩)]
theorem lay_app (cs : List Cd) (live : Nat → Nat) (i : Nat) (xs ys : List Nat) : lay cs live i (xs ++ ys) = lay cs (lay cs live i xs) (i + xs.length) ys := by
  induction xs generalizing live i with
  | nil => rw [lay_nil]; rfl
  | cons x r ih =>
    by_cases h : (cs.getD i default).op = 12 ∨ (cs.getD i default).op = 14
    · rw [List.cons_append, lay_skip h, lay_skip h, ih, show i + 1 + r.length = i + (x :: r).length by simp; omega]
    · rw [not_or] at h
      rw [List.cons_append, lay_cons h.1 h.2, lay_cons h.1 h.2, ih, show i + 1 + r.length = i + (x :: r).length by simp; omega]
theorem lay_lay (cs : List Cd) (live : Nat → Nat) (i : Nat) {xs ys : List Nat} (h : xs.length = ys.length) : lay cs (lay cs live i xs) i ys = lay cs live i ys := by
  funext j
  unfold lay
  split
  · rfl
  · rename_i hn
    rw [if_neg]
    rw [h]
    exact hn

/-- What the instructions of a range write. -/
def wrTo (cs : List Cd) (i : Nat) : Nat → Nat
  | 0 => 0
  | n + 1 => wrTo cs i n ||| wst (cs.getD (i + n) default)
theorem wrTo_head (cs : List Cd) (i : Nat) : ∀ n, wrTo cs i (n + 1) = wst (cs.getD i default) ||| wrTo cs (i + 1) n
  | 0 => by simp [wrTo]
  | n + 1 => by
    show wrTo cs i (n + 1) ||| wst (cs.getD (i + (n + 1)) default) = _
    rw [wrTo_head cs i n, Nat.or_assoc]
    show _ = wst (cs.getD i default) ||| (wrTo cs (i + 1) n ||| wst (cs.getD (i + 1 + n) default))
    rw [show i + 1 + n = i + (n + 1) by omega]
theorem wrTo_add (cs : List Cd) (i n : Nat) : ∀ m, wrTo cs i (n + m) = wrTo cs i n ||| wrTo cs (i + n) m
  | 0 => by simp [wrTo]
  | m + 1 => by
    show wrTo cs i (n + m) ||| wst (cs.getD (i + (n + m)) default) = wrTo cs i n ||| (wrTo cs (i + n) m ||| wst (cs.getD (i + n + m) default))
    rw [wrTo_add cs i n m, Nat.or_assoc, Nat.add_assoc]
theorem wst_zero {c : Cd} (h : c.op = 11 ∨ c.op = 12 ∨ c.op = 13 ∨ c.op = 14) : wst c = 0 := by
  unfold wst
  rw [if_neg (by omega)]
theorem wrTo_tree {cs : List Cd} : ∀ (t : Tr) (i : Nat), Seg cs i t → wrTo cs i t.len = writ t
  | .nil, _, _ => rfl
  | .op c k, i, h => by
    rw [Tr.len_op, wrTo_head, h.op.1, wrTo_tree k _ h.op.2.2]; rfl
  | .ite a t k, i, h => by
    obtain ⟨h1, h2, h3, _, h5⟩ := h.ite
    rw [Tr.len_ite, show 1 + t.len + 1 + k.len = (t.len + (k.len + 1)) + 1 by omega, wrTo_head, h1, wrTo_add, wrTo_tree t _ h2, wrTo_head, h3, wrTo_tree k _ h5, wst_zero (.inl rfl), wst_zero (.inr (.inr (.inr rfl)))]
    simp [writ]
  | .itee a t e k, i, h => by
    obtain ⟨h1, h2, h3, h4, h5, _, h7⟩ := h.itee
    rw [Tr.len_itee, show 1 + t.len + 1 + e.len + 1 + k.len = (t.len + (e.len + (k.len + 1) + 1)) + 1 by omega, wrTo_head, h1, wrTo_add, wrTo_tree t _ h2, wrTo_head, h3, wrTo_add, wrTo_tree e _ h4, wrTo_head, h5, wrTo_tree k _ h7, wst_zero (.inl rfl), wst_zero (.inr (.inl rfl)), wst_zero (.inr (.inr (.inr rfl)))]
    simp [writ, Nat.or_assoc]
  | .loop a b t k, i, h => by
    obtain ⟨h1, h2, h3, _, h5⟩ := h.loop
    rw [Tr.len_loop, show 1 + t.len + 1 + k.len = (t.len + (k.len + 1)) + 1 by omega, wrTo_head, h1, wrTo_add, wrTo_tree t _ h2, wrTo_head, h3, wrTo_tree k _ h5, wst_zero (.inr (.inr (.inl rfl))), wst_zero (.inr (.inr (.inr rfl)))]
    simp [writ]
theorem wrTo_lt {cs : List Cd} (h : ∀ c ∈ cs, CdOk c) (i : Nat) : ∀ n, i + n ≤ cs.length → wrTo cs i n < 16
  | 0, _ => by show 0 < 16; decide
  | n + 1, hn => by
    refine or_lt (wrTo_lt h i n (by omega)) (wr_lt (h _ ?_))
    have hk : i + n < cs.length := by omega
    simp [List.getD_eq_getElem?_getD, hk]

theorem and16' : ∀ a b : Fin 16, bits .and .i64 (a.val : Int) (b.val : Int) = ((a.val &&& b.val : Nat) : Int) := by decide +kernel
theorem and16 {a b : Nat} (ha : a < 16) (hb : b < 16) : bits .and .i64 (a : Int) (b : Int) = ((a &&& b : Nat) : Int) := and16' ⟨a, ha⟩ ⟨b, hb⟩
theorem lay_if {cs : List Cd} {live : Nat → Nat} {i x : Nat} {a : Int} {t k : Tr} {xs ys : List Nat} (h : Seg cs i (.ite a t k)) (hl : xs.length = t.len) :
    lay cs live i (x :: (xs ++ 0 :: ys)) = lay cs (lay cs (updL live i x) (i + 1) xs) (i + 1 + t.len + 1) ys := by
  obtain ⟨h1, _, h3, _⟩ := h.ite
  rw [lay_cons (by rw [h1]; show ¬ (11 : Int) = 12; omega) (by rw [h1]; show ¬ (11 : Int) = 14; omega), lay_app, hl, lay_skip (.inr (by rw [h3]; rfl))]
theorem lay_loop {cs : List Cd} {live : Nat → Nat} {i x : Nat} {a b : Int} {t k : Tr} {xs ys : List Nat} (h : Seg cs i (.loop a b t k)) (hl : xs.length = t.len) :
    lay cs live i (x :: (xs ++ 0 :: ys)) = lay cs (lay cs (updL live i x) (i + 1) xs) (i + 1 + t.len + 1) ys := by
  obtain ⟨h1, _, h3, _⟩ := h.loop
  rw [lay_cons (by rw [h1]; show ¬ (13 : Int) = 12; omega) (by rw [h1]; show ¬ (13 : Int) = 14; omega), lay_app, hl, lay_skip (.inr (by rw [h3]; rfl))]
theorem lay_ife {cs : List Cd} {live : Nat → Nat} {i x : Nat} {a : Int} {t e k : Tr} {xs zs ys : List Nat} (h : Seg cs i (.itee a t e k)) (hl : xs.length = t.len) (hz : zs.length = e.len) :
    lay cs live i (x :: (xs ++ 0 :: (zs ++ 0 :: ys))) = lay cs (lay cs (lay cs (updL live i x) (i + 1) xs) (i + 1 + t.len + 1) zs) (i + 1 + t.len + 1 + e.len + 1) ys := by
  obtain ⟨h1, _, h3, _, h5, _⟩ := h.itee
  rw [lay_cons (by rw [h1]; show ¬ (11 : Int) = 12; omega) (by rw [h1]; show ¬ (11 : Int) = 14; omega), lay_app, hl, lay_skip (.inl (by rw [h3]; rfl)), lay_app, hz, lay_skip (.inr (by rw [h5]; rfl))]

end Go.Proofs.Ytokdfgodmhekmaa
