/- Which instructions the steps of a run execute, and by which lanes; the first step. No program in sight. The block around a place, as the program finds it. A region that draws its order, whose operations each yield a known value in every world that meets S, and leave such a world: whatever the order, the same values lie there behind it. Arguments that came in, opened into the words that the walks use. Bytes that came in, opened into the words that the walks use. The trace's cost, as the program finds it; the law that both are the same. No condition. -/
import Derived.ProofKit
import Derived.OpenShut
import Derived.ChangeOld
import Derived.Deep.Matrix
import Derived.Test.YtkolnakcgjlcgaaKab
import Derived.Test.YtkolnakcgjlcgaaKac
import Derived.Test.YtkolnakcgjlcgaaKai
import Derived.Test.YtkolnakcgjlcgaaKaj
import Derived.Test.YtkolnakcgjlcgaaKba
import Derived.Test.YtkolnakcgjlcgaaKbd

namespace Go.Proofs.Ytkolnakcgjlcgaa

theorem plain_op {c : Cd} (h : Plain c) : c.op ≠ 12 ∧ c.op ≠ 14 := ⟨h.2.2.1, h.2.2.2.2⟩
theorem turns_mem {F : Nat → LS → LS} {n a : Nat} {Q : Nat × Nat × (Nat → Nat → Int) → Prop} (hF : ∀ y s x, x ∈ (F y s).H → x ∈ s.H ∨ Q x) : ∀ (b y : Nat) (s : LS) (x), x ∈ (turns F n a b y s).H → x ∈ s.H ∨ Q x
  | 0, _, _, _, h => .inl h
  | b + 1, y, s, x, h => by
    rcases turns_mem hF b (onesTo s.R y a n) (F (onesTo s.R y a n) s) x h with h | h
    · exact hF _ _ _ h
    · exact .inr h
theorem beat_mem {i mask : Nat} {s : LS} {x : Nat × Nat × (Nat → Nat → Int)} (h : x ∈ (beat i mask s).H) : x ∈ s.H ∨ (x.1 = i ∧ x.2.1 = mask) := by
  rcases List.mem_append.1 h with h | h
  · exact .inl h
  · simp at h; subst h; exact .inr ⟨rfl, rfl⟩
/-- No step is one of an OpElse or an OpEnd. -/
theorem run_op {cs : List Cd} (n m : Nat) : ∀ (t : Tr) (i mask : Nat) (s : LS) (x), t.Ok → Seg cs i t → x ∈ (run n m t i mask s).H → x ∈ s.H ∨ ((cs.getD x.1 default).op ≠ 12 ∧ (cs.getD x.1 default).op ≠ 14)
  | .nil, _, _, _, _, _, _, h => .inl h
  | .op c k, i, mask, s, x, ho, hs, h => by
    obtain ⟨h1, _, h3⟩ := hs.op
    by_cases h0 : mask = 0
    · subst h0; rw [run_zero] at h; exact .inl h
    · have h : x ∈ (if mask = 0 then s else run n m k (i + 1) mask (exec c n m i mask s) : LS).H := h
      rw [if_neg h0] at h
      rcases run_op n m k _ _ _ _ ho.2 h3 h with h | h
      · rw [exec_H] at h
        rcases beat_mem (s := s) h with h | h
        · exact .inl h
        · rw [h.1, h1]; exact .inr (plain_op ho.1)
      · exact .inr h
  | .ite a t k, i, mask, s, x, ho, hs, h => by
    obtain ⟨h1, h2, _, _, h3⟩ := hs.ite
    by_cases h0 : mask = 0
    · subst h0; rw [run_zero] at h; exact .inl h
    · have h : x ∈ (if mask = 0 then s else _ : LS).H := h
      rw [if_neg h0] at h
      rcases run_op n m k _ _ _ _ ho.2.2 h3 h with h | h
      · rcases run_op n m t _ _ _ _ ho.2.1 h2 h with h | h
        · rcases beat_mem (s := s) h with h | h
          · exact .inl h
          · rw [h.1, h1]; exact .inr ⟨by simp [cIf], by simp [cIf]⟩
        · exact .inr h
      · exact .inr h
  | .itee a t e k, i, mask, s, x, ho, hs, h => by
    obtain ⟨h1, h2, _, h4, _, _, h3⟩ := hs.itee
    by_cases h0 : mask = 0
    · subst h0; rw [run_zero] at h; exact .inl h
    · have h : x ∈ (if mask = 0 then s else _ : LS).H := h
      rw [if_neg h0] at h
      rcases run_op n m k _ _ _ _ ho.2.2.2 h3 h with h | h
      · rcases run_op n m e _ _ _ _ ho.2.2.1 h4 h with h | h
        · rcases run_op n m t _ _ _ _ ho.2.1 h2 h with h | h
          · rcases beat_mem (s := s) h with h | h
            · exact .inl h
            · rw [h.1, h1]; exact .inr ⟨by simp [cIf], by simp [cIf]⟩
          · exact .inr h
        · exact .inr h
      · exact .inr h
  | .loop a b t k, i, mask, s, x, ho, hs, h => by
    obtain ⟨h1, h2, _, _, h3⟩ := hs.loop
    by_cases h0 : mask = 0
    · subst h0; rw [run_zero] at h; exact .inl h
    · have h : x ∈ (if mask = 0 then s else _ : LS).H := h
      rw [if_neg h0] at h
      rcases run_op n m k _ _ _ _ ho.2.2.2 h3 h with h | h
      · rcases turns_mem (fun y s x hx => run_op n m t _ _ _ _ ho.2.2.1 h2 hx) _ _ _ _ h with h | h
        · rcases beat_mem (s := s) h with h | h
          · exact .inl h
          · rw [h.1, h1]; exact .inr ⟨by simp [cLoop], by simp [cLoop]⟩
        · exact .inr h
      · exact .inr h

/-- Steps outside of the blocks of a tree have its mask. -/
def OutStep (cs : List Cd) (i mask : Nat) (x : Nat × Nat × (Nat → Nat → Int)) : Prop := (x.2.1 = mask ∧ aroundAt cs x.1 = aroundAt cs i) ∨ (i : Int) ≤ aroundAt cs x.1
theorem around_op {cs : List Cd} {i : Nat} (h1 : ¬ Opens (cs.getD i default)) (h2 : (cs.getD i default).op ≠ 14) : aroundAt cs (i + 1) = aroundAt cs i := by
  unfold aroundAt
  rw [bScan_succ, if_neg h2, if_neg h1]
theorem around_open {cs : List Cd} {i : Nat} (h : Opens (cs.getD i default)) : aroundAt cs (i + 1) = i := by
  unfold aroundAt
  have h2 : (cs.getD i default).op ≠ 14 := by rcases h with h | h <;> omega
  rw [bScan_succ, if_neg h2, if_pos h, if_pos rfl]
/-- Behind a block the blocks around are those before it. -/
theorem around_behind {cs : List Cd} {i : Nat} {t : Tr} (ho : t.Ok) (hs : Seg cs (i + 1) t) (h : Opens (cs.getD i default)) (he : cs.getD (i + 1 + t.len) default = cEnd) : aroundAt cs (i + 1 + t.len + 1) = aroundAt cs i := by
  unfold aroundAt
  have h2 : (cs.getD i default).op ≠ 14 := by rcases h with h | h <;> omega
  rw [bScan_succ, he, if_pos (by rfl), bScan_flat t (i + 1) 1 ho hs, bScan_succ, if_neg h2, if_pos h, if_neg (by decide)]
theorem around_behind2 {cs : List Cd} {i : Nat} {t e : Tr} (ho : t.Ok) (hs : Seg cs (i + 1) t) (h : Opens (cs.getD i default)) (he : cs.getD (i + 1 + t.len) default = cElse) (hoe : e.Ok) (hse : Seg cs (i + 1 + t.len + 1) e) (he2 : cs.getD (i + 1 + t.len + 1 + e.len) default = cEnd) :
    aroundAt cs (i + 1 + t.len + 1 + e.len + 1) = aroundAt cs i ∧ aroundAt cs (i + 1 + t.len + 1) = i := by
  have h2 : (cs.getD i default).op ≠ 14 := by rcases h with h | h <;> omega
  unfold aroundAt
  constructor
  · rw [bScan_succ, he2, if_pos (by rfl), bScan_flat e _ 1 hoe hse, bScan_succ, he, if_neg (by decide), if_neg opens_else, bScan_flat t (i + 1) 1 ho hs, bScan_succ, if_neg h2, if_pos h, if_neg (by decide)]
  · rw [bScan_succ, he, if_neg (by decide), if_neg opens_else, bScan_flat t (i + 1) 0 ho hs, bScan_succ, if_neg h2, if_pos h, if_pos rfl]
theorem OutStep.inner {cs : List Cd} {i j mask mask' : Nat} {x : Nat × Nat × (Nat → Nat → Int)} (h : OutStep cs j mask' x) (hj : aroundAt cs j = i) (hij : i ≤ j) : OutStep cs i mask x := by
  rcases h with h | h
  · exact .inr (by rw [h.2, hj]; exact Int.le_refl _)
  · exact .inr (by omega)
theorem OutStep.next {cs : List Cd} {i j mask : Nat} {x : Nat × Nat × (Nat → Nat → Int)} (h : OutStep cs j mask x) (hj : aroundAt cs j = aroundAt cs i) (hij : i ≤ j) : OutStep cs i mask x := by
  rcases h with h | h
  · exact .inl ⟨h.1, by rw [h.2, hj]⟩
  · exact .inr (by omega)
theorem run_out {cs : List Cd} (n m : Nat) : ∀ (t : Tr) (i mask : Nat) (s : LS) (x), t.Ok → Seg cs i t → x ∈ (run n m t i mask s).H → x ∈ s.H ∨ OutStep cs i mask x
  | .nil, _, _, _, _, _, _, h => .inl h
  | .op c k, i, mask, s, x, ho, hs, h => by
    obtain ⟨h1, _, h3⟩ := hs.op
    by_cases h0 : mask = 0
    · subst h0; rw [run_zero] at h; exact .inl h
    · have h : x ∈ (if mask = 0 then s else run n m k (i + 1) mask (exec c n m i mask s) : LS).H := h
      rw [if_neg h0] at h
      have hn : aroundAt cs (i + 1) = aroundAt cs i := around_op (by rw [h1]; have := ho.1; unfold Plain at this; unfold Opens; omega) (by rw [h1]; exact ho.1.2.2.2.2)
      rcases run_out n m k _ _ _ _ ho.2 h3 h with h | h
      · rw [exec_H] at h
        rcases beat_mem (s := s) h with h | h
        · exact .inl h
        · exact .inr (.inl ⟨h.2, by rw [h.1]⟩)
      · exact .inr (h.next hn (by omega))
  | .ite a t k, i, mask, s, x, ho, hs, h => by
    obtain ⟨h1, h2, he, _, h3⟩ := hs.ite
    have hop : Opens (cs.getD i default) := by rw [h1]; exact opens_if a
    by_cases h0 : mask = 0
    · subst h0; rw [run_zero] at h; exact .inl h
    · have h : x ∈ (if mask = 0 then s else _ : LS).H := h
      rw [if_neg h0] at h
      rcases run_out n m k _ _ _ _ ho.2.2 h3 h with h | h
      · rcases run_out n m t _ _ _ _ ho.2.1 h2 h with h | h
        · rcases beat_mem (s := s) h with h | h
          · exact .inl h
          · exact .inr (.inl ⟨h.2, by rw [h.1]⟩)
        · exact .inr (h.inner (around_open hop) (by omega))
      · exact .inr (h.next (around_behind ho.2.1 h2 hop he) (by omega))
  | .itee a t e k, i, mask, s, x, ho, hs, h => by
    obtain ⟨h1, h2, he, h4, he2, _, h3⟩ := hs.itee
    have hop : Opens (cs.getD i default) := by rw [h1]; exact opens_if a
    obtain ⟨hb1, hb2⟩ := around_behind2 ho.2.1 h2 hop he ho.2.2.1 h4 he2
    by_cases h0 : mask = 0
    · subst h0; rw [run_zero] at h; exact .inl h
    · have h : x ∈ (if mask = 0 then s else _ : LS).H := h
      rw [if_neg h0] at h
      rcases run_out n m k _ _ _ _ ho.2.2.2 h3 h with h | h
      · rcases run_out n m e _ _ _ _ ho.2.2.1 h4 h with h | h
        · rcases run_out n m t _ _ _ _ ho.2.1 h2 h with h | h
          · rcases beat_mem (s := s) h with h | h
            · exact .inl h
            · exact .inr (.inl ⟨h.2, by rw [h.1]⟩)
          · exact .inr (h.inner (around_open hop) (by omega))
        · exact .inr (h.inner hb2 (by omega))
      · exact .inr (h.next hb1 (by omega))
  | .loop a b t k, i, mask, s, x, ho, hs, h => by
    obtain ⟨h1, h2, he, _, h3⟩ := hs.loop
    have hop : Opens (cs.getD i default) := by rw [h1]; exact opens_loop a b
    by_cases h0 : mask = 0
    · subst h0; rw [run_zero] at h; exact .inl h
    · have h : x ∈ (if mask = 0 then s else _ : LS).H := h
      rw [if_neg h0] at h
      rcases run_out n m k _ _ _ _ ho.2.2.2 h3 h with h | h
      · rcases turns_mem (Q := OutStep cs i mask) (fun y s x hx => (run_out n m t _ _ _ _ ho.2.2.1 h2 hx).imp id fun h => h.inner (around_open hop) (by omega)) _ _ _ _ h with h | h
        · rcases beat_mem (s := s) h with h | h
          · exact .inl h
          · exact .inr (.inl ⟨h.2, by rw [h.1]⟩)
        · exact .inr h
      · exact .inr (h.next (around_behind ho.2.2.1 h2 hop he) (by omega))
theorem around_0 (cs : List Cd) : aroundAt cs 0 = -1 := rfl

/-- What was noted before stays in front. -/
def Ext (s s' : LS) : Prop := ∃ X, s'.H = s.H ++ X
theorem Ext.refl (s : LS) : Ext s s := ⟨[], by simp⟩
theorem Ext.trans {a b c : LS} (h : Ext a b) (k : Ext b c) : Ext a c := by
  obtain ⟨X, h⟩ := h; obtain ⟨Y, k⟩ := k; exact ⟨X ++ Y, by rw [k, h]; simp⟩
theorem ext_beat (i mask : Nat) (s : LS) : Ext s (beat i mask s) := ⟨_, rfl⟩
theorem ext_exec (c : Cd) (n m i mask : Nat) (s : LS) : Ext (beat i mask s) (exec c n m i mask s) := ⟨[], by rw [exec_H]; simp; rfl⟩
theorem ext_turns {F : Nat → LS → LS} {n a : Nat} (hF : ∀ y s, Ext s (F y s)) : ∀ (b y : Nat) (s : LS), Ext s (turns F n a b y s)
  | 0, _, s => Ext.refl s
  | b + 1, _y, s => (hF _ s).trans (ext_turns hF b _ _)
theorem run_ext (n m : Nat) : ∀ (t : Tr) (i mask : Nat) (s : LS), Ext s (run n m t i mask s)
  | .nil, _, _, s => Ext.refl s
  | .op c k, i, mask, s => by
    show Ext s (if _ then _ else _)
    split
    · exact Ext.refl s
    · exact (ext_beat i mask s).trans ((ext_exec c n m i mask s).trans (run_ext n m k _ _ _))
  | .ite a t k, i, mask, s => by
    show Ext s (if _ then _ else _)
    split
    · exact Ext.refl s
    · exact (ext_beat i mask s).trans ((run_ext n m t _ _ _).trans (run_ext n m k _ _ _))
  | .itee a t e k, i, mask, s => by
    show Ext s (if _ then _ else _)
    split
    · exact Ext.refl s
    · exact (ext_beat i mask s).trans ((run_ext n m t _ _ _).trans ((run_ext n m e _ _ _).trans (run_ext n m k _ _ _)))
  | .loop a b t k, i, mask, s => by
    show Ext s (if _ then _ else _)
    split
    · exact Ext.refl s
    · exact (ext_beat i mask s).trans ((ext_turns (fun y s => run_ext n m t _ _ _) _ _ _).trans (run_ext n m k _ _ _))
/-- The first step of a tree that is not empty. -/
theorem run_first (n m : Nat) (t : Tr) (i mask : Nat) (s : LS) (h0 : mask ≠ 0) (ht : 0 < t.len) : Ext (beat i mask s) (run n m t i mask s) := by
  cases t with
  | nil => simp [Tr.len, Tr.flat] at ht
  | op c k =>
    show Ext _ (if _ then _ else _)
    rw [if_neg h0]
    exact (ext_exec c n m i mask s).trans (run_ext n m k _ _ _)
  | ite a t k =>
    show Ext _ (if _ then _ else _)
    rw [if_neg h0]
    exact (run_ext n m t _ _ _).trans (run_ext n m k _ _ _)
  | itee a t e k =>
    show Ext _ (if _ then _ else _)
    rw [if_neg h0]
    exact (run_ext n m t _ _ _).trans ((run_ext n m e _ _ _).trans (run_ext n m k _ _ _))
  | loop a b t k =>
    show Ext _ (if _ then _ else _)
    rw [if_neg h0]
    exact (ext_turns (fun y s => run_ext n m t _ _ _) _ _ _).trans (run_ext n m k _ _ _)

end Go.Proofs.Ytkolnakcgjlcgaa

namespace Go.Proofs.Ytkolnakcgjlcgaa
open Go.RowKit

theorem PValid.stk {cs : List Cd} (h : PValid cs) : ∀ {k : Nat}, k ≤ cs.length → ∃ st, sscan (cs.take k) 0 [] = some st ∧ Stk cs k st
  | 0, _ => ⟨[], by simp [sscan], Stk.nil cs⟩
  | k + 1, hk => by
    obtain ⟨st, h1, h2⟩ := PValid.stk h (k := k) (by omega)
    have h3 := sscan_take (show k < cs.length by omega) h1
    cases hs : sstep st k (cs.getD k default) with
    | none =>
      rw [hs] at h3
      have := sscan_none h3
      rw [h.2.2] at this; cases this
    | some st' => exact ⟨st', h3.trans hs, h2.step (by omega) hs⟩
/-- The innermost of the blocks around a place. -/
theorem stk_top {cs : List Cd} (h : PValid cs) {k : Nat} (hk : k < cs.length) : ((stkPos cs k).length = 0 ∧ aroundAt cs k = -1) ∨
    (0 < (stkPos cs k).length ∧ (((stkPos cs k).getD ((stkPos cs k).length - 1) 0 : Nat) : Int) = aroundAt cs k ∧ (stkPos cs k).getD ((stkPos cs k).length - 1) 0 < cs.length ∧ Opens (cs.getD ((stkPos cs k).getD ((stkPos cs k).length - 1) 0) default)) := by
  obtain ⟨st, h1, h2⟩ := h.stk (Nat.le_of_lt hk)
  have e : stkPos cs k = (st.map (·.1)).reverse := by unfold stkPos; rw [h1]; rfl
  have ha := h2.around 0
  cases st with
  | nil => left; rw [e]; exact ⟨rfl, ha⟩
  | cons x r =>
    right
    have hl : (stkPos cs k).length = r.length + 1 := by rw [e]; simp
    have hg : (stkPos cs k).getD ((stkPos cs k).length - 1) 0 = x.1 := by
      rw [hl, e]
      simp [List.getD_eq_getElem?_getD]
    rw [hg]
    have hlt := h2.lt 0 (by simp)
    obtain ⟨o, _, he⟩ := h2.ends 0 (by simp)
    simp only [List.getElem_cons_zero] at hlt he
    refine ⟨by omega, ha.symm, by omega, ?_⟩
    rcases he with he | he | he
    · exact .inl he.2.1
    · exact .inl he.2.1
    · exact .inr he.2.1

open Classical in
noncomputable def aroundA (cs : List Cd) (p : Int) : Int := if PValid cs ∧ 0 ≤ p ∧ p ≤ (cs.length : Int) - 1 then aroundAt cs p.toNat else -1

set_option maxHeartbeats 1000000 in
theorem iba_any (v : Value) (cs : List Cd) (a : Int) (w : World) (h : Codes w v cs) (hsmall : cs.length ≤ 1048576) :
    Calls Try.prog 39 #[v, .int .i64 a] w fun e w' => e = .returned (.int .i64 (aroundA cs a)) ∧ Pure w w' := by
  have H := Lib.hid h
  obtain ⟨A, c, rfl, hnc, hcm⟩ := h.form
  clear h
  obtain ⟨B, hB⟩ := runB cs
  have HB := Lib.hid hB
  clear hB
  cases B
  · have HN : Hid (aroundA cs a = -1) := Lib.hid (by unfold aroundA; rw [if_neg (fun h => by have := HB.out.2 h.1; cases this)])
    rw [HN.out]
    go_enter Try.func39, Try.ntmps39
    go_wp2_with fail
    refine (ipv_any _ cs _ H.out hsmall false HB.out).mono ?_
    rintro e w1 ⟨rfl, hp1⟩
    go_wp2
    go_ret
    exact ⟨rfl, hp1⟩
  have hv : PValid cs := HB.out.1 rfl
  have HV := Lib.hid hv
  clear hv
  by_cases hin : 0 ≤ a ∧ a ≤ (cs.length : Int) - 1
  · obtain ⟨k, rfl⟩ : ∃ k : Nat, a = k := ⟨a.toNat, by omega⟩
    have hk : k < cs.length := by omega
    have HN : Hid (aroundA cs k = aroundAt cs k) := Lib.hid (by unfold aroundA; rw [if_pos ⟨HV.out, hin⟩]; rfl)
    have HIN := Lib.hid hin
    clear hin
    rw [HN.out]
    have HTOP := Lib.hid (stk_top HV.out hk)
    obtain ⟨q, Hq⟩ : ∃ q, Hid (aroundAt cs k = q) := ⟨_, Lib.hid rfl⟩
    rw [Hq.out] at HTOP ⊢
    go_enter Try.func39, Try.ntmps39
    go_wp2_with fail
    refine (ipv_any _ cs _ H.out hsmall true (by simp only [true_iff]; exact HV.out)).mono ?_
    rintro e w1 ⟨rfl, hp1⟩
    go_wp2_with fail
    refine (within_any (k : Int) 0 ((cs.length : Int) - 1) _ true (by simp only [true_iff]; exact HIN.out)).mono ?_
    rintro e w1 ⟨rfl, rfl⟩
    go_wp2_with fail
    refine (blocks_any _ cs _ (H.out.keep hp1) HV.out.2.1).mono ?_
    rintro e w2 ⟨hp2, hm⟩
    rw [HV.out.2.2] at hm
    obtain ⟨va, vo, rfl, ht⟩ := hm
    obtain ⟨pb, h1, h2, R, h3, h4⟩ := ht rfl
    obtain ⟨Aa, ca, rfl, hla, hca, hcells⟩ := h3
    obtain ⟨ba, oa, rfl, hba, hcc⟩ := hcells (by omega)
    have q0 := hcc k (by omega)
    have hrow := h4 k hk
    have HP := Lib.hid (hp1.trans hp2)
    have HB2 := Lib.hid h2
    obtain ⟨Rk, HRk⟩ : ∃ r, Hid (R k = r) := ⟨_, Lib.hid rfl⟩
    rw [HRk.out] at q0 hrow
    obtain ⟨S, HS⟩ : ∃ S, Hid (stkPos cs k = S) := ⟨_, Lib.hid rfl⟩
    rw [HS.out] at hrow HTOP
    obtain ⟨Ar, cr, rfl, hlr, hcr, hrc⟩ := hrow
    obtain ⟨_, _, rfl, _⟩ := h1
    have HRC := Lib.hid hrc
    clear h2 h4 hcc hcells hrc hp1 hp2
    rcases HTOP.out with ⟨h0, hq⟩ | ⟨h0, hq, hlt, hop⟩
    · have hz : (S.length : Int) = 0 := by omega
      have HQ := Lib.hid hq
      clear hq
      go_wp2
      go_ret
      exact ⟨by rw [HQ.out]; rfl, HP.out⟩
    · obtain ⟨br, or1, rfl, hbr, hcr2⟩ := HRC.out h0
      have q1 := hcr2 (S.length - 1) (by omega)
      obtain ⟨tp, Htp⟩ : ∃ tp, Hid (S.getD (S.length - 1) 0 = tp) := ⟨_, Lib.hid rfl⟩
      simp only [Htp.out] at q1
      rw [Htp.out] at hq hlt hop
      have q2 := (HB2.out tp hlt hop).2.1
      have hpos : (0 : Int) < (S.length : Int) := by omega
      have hidx : ((S.length - 1 : Nat) : Int) = (S.length : Int) - 1 := by omega
      obtain ⟨u, Hu⟩ : ∃ u, Hid (S.length - 1 = u) := ⟨_, Lib.hid rfl⟩
      rw [Hu.out] at q1 hidx
      have hul : u < S.length := by omega
      have hx : (S.length : Int) - 1 = (u : Int) := hidx.symm
      unfold ptr at q1
      have HQ := Lib.hid hq
      clear hcr2 hq hop hidx
      go_wp2
      go_ret
      exact ⟨ret_int HQ.out, HP.out⟩
  · have HN : Hid (aroundA cs a = -1) := Lib.hid (by unfold aroundA; rw [if_neg (fun h => hin h.2)])
    have HIN := Lib.hid hin
    clear hin
    rw [HN.out]
    go_enter Try.func39, Try.ntmps39
    go_wp2_with fail
    refine (ipv_any _ cs _ H.out hsmall true (by simp only [true_iff]; exact HV.out)).mono ?_
    rintro e w1 ⟨rfl, hp1⟩
    go_wp2_with fail
    refine (within_any a 0 ((cs.length : Int) - 1) _ false (by simp only [Bool.false_eq_true, false_iff]; exact HIN.out)).mono ?_
    rintro e w1 ⟨rfl, rfl⟩
    go_wp2
    go_ret
    exact ⟨rfl, hp1⟩

end Go.Proofs.Ytkolnakcgjlcgaa

namespace Go.Proofs.Ytkolnakcgjlcgaa
open Go.RowKit

def foldPut : Act → List Oper → List Value → Act
  | a, o :: r, v :: vs => foldPut (a.put o.dst v) r vs
  | a, _, _ => a
def nowhere : Exit → Act → World → Prop := fun _ _ _ => False
def PureOps (P : Program) (ops : Array Oper) (S : World → Prop) (aF : Act) : List Oper → List Value → Prop
  | o :: r, v :: vs => (∀ u, S u → wpList P ops (thenK nowhere fun b u' => S u' ∧ b = aF.put o.dst v) [o] aF u) ∧ PureOps P ops S aF r vs
  | _, _ => True
def dsts (l : List Oper) : List Tmp := l.filterMap (·.dst)
def looksB (ops : Array Oper) : Bool := (List.range ops.size).all fun i => ((ops[i]?).map fun o => (o.looksAt ops).all fun t => (List.range ops.size).all fun j => ((ops[j]?).map fun o' => o'.dst != some t || o.after.any fun e => e.on == j && Region.binds .any e).getD true).getD true
def pureB (l : List Oper) : Bool := Region.noSelect l.toArray && looksB l.toArray && decide (dsts l).Nodup
def sizeB (a : Act) (l : List Oper) : Bool := (dsts l).all fun d => decide (d < a.tmps.size)

theorem put_size (a : Act) (d : Option Tmp) (v : Value) : (a.put d v).tmps.size = a.tmps.size := by
  cases d <;> simp [Act.put]
theorem put_def (a : Act) (d : Option Tmp) (v : Value) : (a.put d v).defers = a.defers := by
  cases d <;> rfl
theorem foldPut_size : ∀ (l : List Oper) (vs : List Value) (a : Act), (foldPut a l vs).tmps.size = a.tmps.size
  | [], _, _ => rfl
  | _ :: _, [], _ => rfl
  | o :: r, v :: vs, a => by
    show (foldPut (a.put o.dst v) r vs).tmps.size = _
    rw [foldPut_size r vs, put_size]
theorem foldPut_def : ∀ (l : List Oper) (vs : List Value) (a : Act), (foldPut a l vs).defers = a.defers
  | [], _, _ => rfl
  | _ :: _, [], _ => rfl
  | o :: r, v :: vs, a => by
    show (foldPut (a.put o.dst v) r vs).defers = _
    rw [foldPut_def r vs, put_def]
theorem put_get_ne (a : Act) {d : Option Tmp} {t : Tmp} (v : Value) (h : d ≠ some t) : (a.put d v).tmps[t]? = a.tmps[t]? := by
  cases d with
  | none => rfl
  | some d => simp [Act.put, Array.getElem?_setIfInBounds_ne (show d ≠ t from fun e => h (by rw [e]))]
theorem put_get_same (a : Act) {t : Tmp} (v : Value) (h : t < a.tmps.size) : (a.put (some t) v).tmps[t]? = some v := by
  simp [Act.put, Array.getElem?_setIfInBounds_self_of_lt h]
theorem foldPut_keep : ∀ (l : List Oper) (vs : List Value) (a : Act) (t : Tmp), t ∉ dsts l → (foldPut a l vs).tmps[t]? = a.tmps[t]?
  | [], _, _, _, _ => rfl
  | _ :: _, [], _, _, _ => rfl
  | o :: r, v :: vs, a, t, h => by
    show (foldPut (a.put o.dst v) r vs).tmps[t]? = _
    have h1 : o.dst ≠ some t := fun e => h (by unfold dsts; exact List.mem_filterMap.2 ⟨o, by simp, e⟩)
    have h2 : t ∉ dsts r := fun e => h (by
      unfold dsts at e ⊢
      obtain ⟨x, hx, he⟩ := List.mem_filterMap.1 e
      exact List.mem_filterMap.2 ⟨x, by simp [hx], he⟩)
    rw [foldPut_keep r vs _ t h2, put_get_ne a v h1]
theorem foldPut_hit : ∀ (l : List Oper) (vs : List Value) (a : Act) (j : Nat) (o : Oper) (v : Value) (t : Tmp), (dsts l).Nodup → l[j]? = some o → vs[j]? = some v → o.dst = some t → t < a.tmps.size → (foldPut a l vs).tmps[t]? = some v
  | [], _, _, j, _, _, _, _, h, _, _, _ => by simp at h
  | _ :: _, [], _, j, _, _, _, _, _, h, _, _ => by simp at h
  | o :: r, v :: vs, a, 0, o', v', t, hn, h1, h2, h3, h4 => by
    simp at h1 h2
    subst h1 h2
    have e : dsts (o :: r) = t :: dsts r := by unfold dsts; simp [h3]
    rw [e] at hn
    show (foldPut (a.put o.dst v) r vs).tmps[t]? = _
    rw [foldPut_keep r vs _ t (List.nodup_cons.1 hn).1, h3, put_get_same a v h4]
  | o :: r, v :: vs, a, j + 1, o', v', t, hn, h1, h2, h3, h4 => by
    have hn' : (dsts r).Nodup := by
      unfold dsts at hn ⊢
      cases hd : o.dst with
      | none => simpa [hd] using hn
      | some d => simp [hd] at hn; exact hn.2
    exact foldPut_hit r vs (a.put o.dst v) j o' v' t hn' (by simpa using h1) (by simpa using h2) h3 (by rw [put_size]; exact h4)
theorem PureOps.get {P : Program} {ops : Array Oper} {S : World → Prop} {aF : Act} : ∀ {l : List Oper} {vs : List Value} {j : Nat} {o : Oper} {v : Value}, PureOps P ops S aF l vs → l[j]? = some o → vs[j]? = some v → ∀ u, S u → wpList P ops (thenK nowhere fun b u' => S u' ∧ b = aF.put o.dst v) [o] aF u
  | [], _, _, _, _, _, h, _ => by simp at h
  | _ :: _, [], _, _, _, _, _, h => by simp at h
  | _ :: _, _ :: _, 0, _, _, hp, h1, h2 => by
    simp at h1 h2; subst h1 h2; exact hp.1
  | _ :: _, _ :: _, j + 1, _, _, hp, h1, h2 => PureOps.get hp.2 (by simpa using h1) (by simpa using h2)
theorem put_inj {aF a : Act} {d : Option Tmp} {x v : Value} (hd : ∀ t, d = some t → t < aF.tmps.size) (h : aF.put d x = aF.put d v) : a.put d x = a.put d v := by
  cases d with
  | none => rfl
  | some t =>
    have h1 := put_get_same aF x (hd t rfl)
    rw [h, put_get_same aF v (hd t rfl)] at h1
    injection h1 with h1
    rw [h1]
theorem transfer {P : Program} {ops : Array Oper} {S : World → Prop} {Q : Exit → Act → World → Prop} {K : Act → World → Prop} {o : Oper} {a aF : Act} {v : Value} {u : World} (he : execOp a.eval o = execOp aF.eval o)
    (hw : Region.wanted o (yielded ops a.tmps) = Region.wanted o (yielded ops aF.tmps)) (hd : ∀ t, o.dst = some t → t < aF.tmps.size) (h : wpList P ops (thenK nowhere fun b u' => S u' ∧ b = aF.put o.dst v) [o] aF u)
    (hK : ∀ u', S u' → K (a.put o.dst v) u') : wpList P ops (thenK Q K) [o] a u := by
  unfold wpList at h ⊢
  rw [hw]
  split
  · rename_i hwt
    rw [if_pos hwt] at h
    rcases h with h | ⟨_, b, u', h2⟩
    · left
      unfold Oper.wp at h ⊢
      rw [he]
      generalize (execOp aF.eval o).run P u = r at h
      cases r with
      | ok n w' =>
        cases n with
        | value x => obtain ⟨h1, h2⟩ := h; show K _ _; rw [put_inj hd h2]; exact hK _ h1
        | skip => obtain ⟨h1, h2⟩ := h; show K _ _; rw [put_inj hd h2]; exact hK _ h1
        | defer d =>
          obtain ⟨_, h2⟩ := h
          exfalso
          have := congrArg Act.defers h2
          rw [put_def, put_def] at this
          exact absurd (congrArg List.length this) (by simp)
        | enter f xs =>
          refine Calls.mono h fun e w'' k => ?_
          cases e with
          | returned x => obtain ⟨h1, h2⟩ := k; show K _ _; rw [put_inj hd h2]; exact hK _ h1
          | panicked c => exact (k : False).elim
          | outgrown => obtain ⟨_, _, k⟩ := k; exact (k : False).elim
        | row r xs =>
          refine Rows.mono h fun x w'' k => ?_
          obtain ⟨h1, h2⟩ := k; show K _ _; rw [put_inj hd h2]; exact hK _ h1
        | _ => exact (h : False).elim
      | halt x w' => cases x <;> exact (h : False).elim
    · exact (h2 : False).elim
  · rename_i hwt
    rw [if_neg hwt] at h
    obtain ⟨h1, h2⟩ := h
    show K _ _
    rw [put_inj hd h2]
    exact hK _ h1
theorem eval_eq {a aF : Act} {x : Operand} (h : ∀ t, x = .tmp t → a.tmps[t]? = aF.tmps[t]?) : a.eval x = aF.eval x := by
  cases x with
  | tmp t => simp [Act.eval, h t rfl]
  | _ => rfl
theorem wanted_eq {ops : Array Oper} {o : Oper} {a aF : Act} (h : ∀ t ∈ o.looksAt ops, a.tmps[t]? = aF.tmps[t]?) : Region.wanted o (yielded ops a.tmps) = Region.wanted o (yielded ops aF.tmps) := by
  unfold Region.wanted
  cases hg : o.guard with
  | none => rfl
  | some gw =>
    obtain ⟨g, want⟩ := gw
    have hy : yielded ops a.tmps g = yielded ops aF.tmps g := by
      unfold yielded
      cases ht : (ops[g]?).bind (·.dst) with
      | none => rfl
      | some t =>
        have := h t (by simp [Oper.looksAt, hg, ht])
        simp only [Option.bind_some, this]
    simp only [hy]
theorem looksB_spec {ops : Array Oper} (h : looksB ops = true) {i j : Nat} {o o' : Oper} {t : Tmp} (ho : ops[i]? = some o) (ht : t ∈ o.looksAt ops) (ho' : ops[j]? = some o') (hd : o'.dst = some t) : ∃ e ∈ o.after, e.on = j ∧ Region.binds .any e = true := by
  have hi := (Array.getElem?_eq_some_iff.1 ho).1
  have hj := (Array.getElem?_eq_some_iff.1 ho').1
  have h1 := (List.all_eq_true.1 h) i (List.mem_range.2 hi)
  rw [ho] at h1
  simp only [Option.map_some, Option.getD_some] at h1
  have h2 := (List.all_eq_true.1 ((List.all_eq_true.1 h1) t ht)) j (List.mem_range.2 hj)
  rw [ho'] at h2
  simp only [Option.map_some, Option.getD_some, hd, bne_self_eq_false, Bool.false_or] at h2
  obtain ⟨k, hk, h3⟩ := Array.any_eq_true.1 h2
  simp only [Bool.and_eq_true, beq_iff_eq] at h3
  exact ⟨o.after[k], Array.getElem_mem hk, h3⟩

theorem getD_setS' (l : Array Bool) (i j : Nat) (h : (l.setIfInBounds i true).getD j false = true) (hij : i ≠ j) : l.getD j false = true := (getD_setB l i j h).resolve_right hij

theorem region_pure {P : Program} {id : Nat} {Q : Exit → Act → World → Prop} {a : Act} {w : World} {l : List Oper} (vals : List Value) (S : World → Prop) (hm : P.follows .mixedOrders = true) (hB : pureB l = true) (hl : vals.length = l.length) (hz : sizeB a l = true)
    (hS : S w.drew) (hops : PureOps P l.toArray S (foldPut a l vals) l vals) (hend : ∀ u, S u → Q .normal (foldPut a l vals) u) (hback : backB l.toArray = true) : (Code.region id l.toArray true).wp P Q a w := by
  simp only [pureB, Bool.and_eq_true, decide_eq_true_eq] at hB
  obtain ⟨⟨hsel, hlook⟩, hnd⟩ := hB
  have hsz : ∀ o ∈ l, ∀ t, o.dst = some t → t < a.tmps.size := fun o ho t ht => by
    have := (List.all_eq_true.1 hz) t (List.mem_filterMap.2 ⟨o, ho, ht⟩)
    simpa using this
  have hval : ∀ j o, l[j]? = some o → ∃ v, vals[j]? = some v := fun j o ho => by
    have : j < vals.length := by have := (List.getElem?_eq_some_iff.1 ho).1; omega
    exact ⟨vals[j], List.getElem?_eq_getElem this⟩
  refine region_inv hm (fun l' b u => S u ∧ b.defers = a.defers ∧ b.tmps.size = a.tmps.size ∧ l'.size = l.length ∧ (∀ j o t, l[j]? = some o → o.dst = some t → l'.getD j false = true → b.tmps[t]? = (foldPut a l vals).tmps[t]?) ∧ ∀ t, t ∉ dsts l → b.tmps[t]? = (foldPut a l vals).tmps[t]?) ?_ ?_ ?_
  · refine ⟨hS, rfl, rfl, by simp, fun j o t _ _ h => ?_, fun t ht => (foldPut_keep l vals a t ht).symm⟩
    rw [Array.getD_eq_getD_getElem?] at h
    by_cases hj : j < l.length
    · simp [hj] at h
    · simp [hj] at h
  · rintro l' b u ⟨h1, h2, h3, h4, h5, h6⟩ hr
    have hall := ready_nil hback (by simpa using h4) hr
    have : b = foldPut a l vals := by
      have ht : b.tmps = (foldPut a l vals).tmps := by
        apply Array.ext_getElem?
        intro t
        by_cases ht : t ∈ dsts l
        · obtain ⟨o, ho, hd⟩ := List.mem_filterMap.1 ht
          obtain ⟨j, hj, rfl⟩ := List.getElem_of_mem ho
          exact h5 j l[j] t (List.getElem?_eq_getElem hj) hd (hall j (by simpa using hj))
        · exact h6 t ht
      have hd : b.defers = (foldPut a l vals).defers := by rw [h2, foldPut_def]
      cases b
      cases hF : foldPut a l vals
      rw [hF] at ht hd
      simp only at ht hd
      rw [ht, hd]
    rw [this]
    exact hend u h1
  · rintro l' b u i o ⟨h1, h2, h3, h4, h5, h6⟩ ho hun hdep
    have ho' : l[i]? = some o := by simpa using ho
    obtain ⟨v, hv⟩ := hval i o ho'
    have hlooks : ∀ t ∈ o.looksAt l.toArray, b.tmps[t]? = (foldPut a l vals).tmps[t]? := fun t ht => by
      by_cases hd : t ∈ dsts l
      · obtain ⟨oj, hoj, hdj⟩ := List.mem_filterMap.1 hd
        obtain ⟨j, hj, rfl⟩ := List.getElem_of_mem hoj
        obtain ⟨e, he, e1, e2⟩ := looksB_spec hlook ho ht (show l.toArray[j]? = some l[j] by simp [hj]) hdj
        exact h5 j _ t (List.getElem?_eq_getElem hj) hdj (by rw [← e1]; exact hdep e he e2)
      · exact h6 t hd
    refine transfer (execOp_congr o (fun cs c => Region.noSelect_spec hsel i o cs c ho) fun x hx => eval_eq fun t ht => hlooks t ?_) (wanted_eq hlooks) (fun t ht => by rw [foldPut_size]; exact hsz o (List.mem_of_getElem? ho') t ht) (PureOps.get hops ho' hv u h1) fun u' hu' => ?_
    · subst ht
      exact List.mem_append_left _ (List.mem_filterMap.2 ⟨.tmp t, by simpa using hx, rfl⟩)
    · refine ⟨hu', by rw [put_def, h2], by rw [put_size, h3], by simpa using h4, fun j oj t hj hdj hlj => ?_, fun t ht => ?_⟩
      · by_cases hij : i = j
        · subst hij
          rw [ho'] at hj
          injection hj with hj
          subst hj
          have hlt := hsz o (List.mem_of_getElem? ho') t hdj
          rw [foldPut_hit l vals a i o v t hnd ho' hv hdj hlt, hdj, put_get_same b v (by rw [h3]; exact hlt)]
        · by_cases hdd : o.dst = some t
          · exfalso
            have hlt := hsz o (List.mem_of_getElem? ho') t hdd
            -- two operations with the same slot
            have : ∀ (l : List Oper) (i j : Nat) (x y : Oper), (dsts l).Nodup → l[i]? = some x → l[j]? = some y → x.dst = some t → y.dst = some t → i = j := by
              intro l
              induction l with
              | nil => intro i j x y _ h; simp at h
              | cons z r ih =>
                intro i j x y hn hx hy dx dy
                have hn' : (dsts r).Nodup := by
                  unfold dsts at hn ⊢
                  cases hd : z.dst with
                  | none => simpa [hd] using hn
                  | some d => simp [hd] at hn; exact hn.2
                have hz0 : z.dst = some t → t ∉ dsts r := fun e => by
                  have : dsts (z :: r) = t :: dsts r := by unfold dsts; simp [e]
                  rw [this] at hn
                  exact (List.nodup_cons.1 hn).1
                cases i with
                | zero =>
                  cases j with
                  | zero => rfl
                  | succ j =>
                    simp at hx hy; subst hx
                    exact absurd (List.mem_filterMap.2 ⟨y, List.mem_of_getElem? hy, dy⟩) (hz0 dx)
                | succ i =>
                  cases j with
                  | zero =>
                    simp at hx hy; subst hy
                    exact absurd (List.mem_filterMap.2 ⟨x, List.mem_of_getElem? hx, dx⟩) (hz0 dy)
                  | succ j => rw [ih i j x y hn' (by simpa using hx) (by simpa using hy) dx dy]
            exact hij (this l i j o oj hnd ho' hj hdd hdj)
          · rw [put_get_ne b v hdd]
            exact h5 j oj t hj hdj (getD_setS' l' i j hlj hij)
      · have hdd : o.dst ≠ some t := fun e => ht (List.mem_filterMap.2 ⟨o, List.mem_of_getElem? ho', e⟩)
        rw [put_get_ne b v hdd]
        exact h6 t ht

end Go.Proofs.Ytkolnakcgjlcgaa

namespace Go.Proofs.Ytkolnakcgjlcgaa
open Go.ChangeShapes Go.WideShapes Go.ChangeAt Go.RowKit Go.Deep

theorem own_knob : ownKnob Try.prog.godebug = none := by kernel_rfl
theorem laid_out : laidOutB Try.prog = true := by kernel_rfl

theorem addr_form {w : World} {a : Addr} {v : Value} (h : w.cell? a = some v) : ∃ b o, a = ⟨b, o, none⟩ := by
  obtain ⟨b, o, s⟩ := a
  have := World.cell?_spot h
  simp only at this
  subst this
  exact ⟨b, o, rfl⟩
theorem block_of_cell {w : World} {b o : Nat} {v : Value} (h : w.cell? ⟨b, o, none⟩ = some v) : b < w.heap.size := World.block_lt_of_cell? w ⟨b, o, none⟩ h

theorem Cells.of_addr {w : World} {a : Addr} {len cap s : Nat} {f : Nat → Value} (hs : 0 < s) (h1 : len ≤ cap) (h2 : cap ≤ maxLen) (hc : ∀ j, j < len * s → w.cell? (a.add j) = some (f j)) : Cells w (.slice (some a) len cap) len s f := by
  refine ⟨_, cap, rfl, h1, by unfold maxLen at h2; omega, fun hn => ?_⟩
  have h0 := hc 0 (Nat.mul_pos hn hs)
  obtain ⟨b, o, rfl⟩ := addr_form (show w.cell? a = some (f 0) by simpa [Addr.add] using h0)
  refine ⟨b, o, rfl, block_of_cell (show w.cell? ⟨b, o, none⟩ = some (f 0) by simpa [Addr.add] using h0), fun j hj => ?_⟩
  rw [← add_mid]; exact hc j hj

section
variable {H : Type} {enc : TypeId × Value → H} {W : World} {base : Nat} {held : Bool}

theorem ints_open {fuel : Nat} {cs : List Value} {x : DataW H × List MemPlace} (h : DataW.trod enc Try.prog W base (fun _ => true) held fuel 24 cs = some x) : ∃ v xs, cs = [v] ∧ Ints W v xs ∧ xs.length * 8 ≤ maxLen * 8 := by
  rcases open_ints Try.underlying24 Try.underlying3 (by kernel_rfl) h with ⟨hcs, _⟩ | ⟨a, len, cap, zs, hcs, _, hl, hm, hz, _, hcell, hwz⟩
  · exact ⟨_, [], hcs, ⟨none, 0, rfl, by simp, by omega, fun h => absurd h (by simp)⟩, by simp⟩
  · simp only [if_true] at hz
    refine ⟨_, zs.take len, hcs, ?_, by simp; have := hm; omega⟩
    have hlen : (zs.take len).length = len := by simp; omega
    unfold Ints
    rw [hlen]
    refine Cells.of_addr (by omega) hl hm fun j hj => ?_
    rw [hcell j (by omega)]
    have : j < len := by omega
    simp [List.getD_eq_getElem?_getD, this]

theorem introws_open {fuel : Nat} {cs : List Value} {x : DataW H × List MemPlace} (h : DataW.trod enc Try.prog W base (fun _ => true) held fuel 39 cs = some x) : ∃ v xss, cs = [v] ∧ IntRows W v xss := by
  rcases open_int_rows Try.underlying39 Try.underlying24 Try.underlying3 (by kernel_rfl) (by kernel_rfl) h with ⟨hcs, _⟩ | ⟨a, len, cap, A, L, C, Z, hcs, _, hl, hm, _, hr⟩
  · exact ⟨_, [], hcs, ⟨none, 0, rfl, by simp, by omega, fun h => absurd h (by simp)⟩⟩
  · refine ⟨_, (List.range len).map fun r => (Z r).take (L r), hcs, ?_⟩
    have hlen : ((List.range len).map fun r => (Z r).take (L r)).length = len := by simp
    refine ⟨some a, cap, by rw [hlen], by rw [hlen]; exact hl, by unfold maxLen at hm; omega, fun hn => ?_⟩
    rw [hlen] at hn
    have h0 := (hr 0 (by omega)).1
    obtain ⟨b, o, rfl⟩ := addr_form (show W.cell? a = _ by simpa [Addr.add] using h0)
    refine ⟨b, o, rfl, block_of_cell (show W.cell? ⟨b, o, none⟩ = _ by simpa [Addr.add] using h0), fun k hk => ?_⟩
    rw [hlen] at hk
    obtain ⟨c1, c2, c3, c4, c5, c6, c7⟩ := hr k (by omega)
    refine ⟨_, by rw [← add_mid]; exact c1, ?_⟩
    have hrow : ((List.range len).map fun r => (Z r).take (L r)).getD k [] = (Z k).take (L k) := by simp [List.getD_eq_getElem?_getD, hk]
    rw [hrow]
    have hl2 : ((Z k).take (L k)).length = L k := by simp; omega
    unfold Ints
    rw [hl2]
    cases hA : A k with
    | none =>
      have := c6 hA
      exact ⟨none, C k, rfl, by omega, by unfold maxLen at c3; omega, fun h => absurd h (by omega)⟩
    | some a' =>
      refine Cells.of_addr (by omega) c2 c3 fun j hj => ?_
      rw [(c7 a' hA).2 j (by omega)]
      have : j < L k := by omega
      simp [List.getD_eq_getElem?_getD, this]
end
end Go.Proofs.Ytkolnakcgjlcgaa

namespace Go.Proofs.Ytkolnakcgjlcgaa
open Go.ChangeShapes Go.WideShapes Go.ChangeAt Go.RowKit Go.Deep

section
variable {H : Type} {enc : TypeId × Value → H} {W : World} {base : Nat} {held : Bool}

theorem bytes_open {fuel : Nat} {cs : List Value} {x : DataW H × List MemPlace} (h : DataW.trod enc Try.prog W base (fun _ => true) held fuel 22 cs = some x) : ∃ v xs, cs = [v] ∧ Bytes W v xs := by
  rcases open_ints Try.underlying22 Try.underlying5 (by kernel_rfl) h with ⟨hcs, _⟩ | ⟨a, len, cap, zs, hcs, _, hl, hm, hz, _, hcell, hwz⟩
  · exact ⟨_, [], hcs, ⟨none, 0, rfl, by simp, by omega, fun h => absurd h (by simp)⟩, by simp⟩
  · simp only [if_true] at hz
    refine ⟨_, zs.take len, hcs, ?_, fun x hx => ?_⟩
    · have hlen : (zs.take len).length = len := by simp; omega
      rw [hlen]
      refine Cells.of_addr (by omega) hl hm fun j hj => ?_
      rw [hcell j (by omega)]
      have : j < len := by omega
      simp [List.getD_eq_getElem?_getD, this]
    · have := hwz x (List.mem_of_mem_take hx)
      simp only [Lit.wf, Bool.and_eq_true, decide_eq_true_eq] at this
      exact ⟨this.1, this.2⟩
end
end Go.Proofs.Ytkolnakcgjlcgaa

namespace Go.Proofs.Ytkolnakcgjlcgaa
open Go.RowKit

/-- What the steps below j cost that one of the lanes of b takes. -/
def costM (cs : List Cd) (b : Nat) (H : List (Nat × Nat × (Nat → Nat → Int))) : Nat → Nat
  | 0 => 0
  | j + 1 => if (H.getD j default).2.1 &&& b = 0 then costM cs b H j else costM cs b H j + cdCost (cs.getD (H.getD j default).1 default)
theorem costM_le (cs : List Cd) (b : Nat) (H : List (Nat × Nat × (Nat → Nat → Int))) : ∀ j, costM cs b H j ≤ 4 * j
  | 0 => Nat.le_refl _
  | j + 1 => by
    have h1 := costM_le cs b H j
    have h2 := cdCost_le (cs.getD (H.getD j default).1 default)
    unfold costM
    split <;> omega
theorem costM_all {cs : List Cd} {n : Nat} {H : List (Nat × Nat × (Nat → Nat → Int))} (h : ∀ x ∈ H, StepIn n 0 cs.length x) : ∀ j, j ≤ H.length → costM cs (2 ^ n - 1) H j = costTo cs H j
  | 0, _ => rfl
  | j + 1, hj => by
    have ih := costM_all h j (by omega)
    have hx := h _ (getD_mem' (show j < H.length by omega))
    unfold costM costTo
    rw [Nat.and_two_pow_sub_one_eq_mod, Nat.mod_eq_of_lt hx.2.2.2, if_neg hx.2.2.1, ih]

theorem neqI (x y : Nat) : (((x : Int) != (y : Int)) = true ∧ x ≠ y) ∨ (((x : Int) != (y : Int)) = false ∧ x = y) := by
  by_cases h : x = y
  · exact .inr ⟨by simp [h], h⟩
  · exact .inl ⟨by simp; omega, h⟩

/-- The cells that a step's cost is read from. -/
def CostS (P M : Nat) (vl : Value) (p g b k : Nat) (cd : Cd) (w : World) : Prop :=
  w.cell? ⟨P, 0, none⟩ = some (.pointer (some ⟨M, 0, none⟩)) ∧ w.cell? ⟨M, 0, none⟩ = some vl ∧ w.cell? ⟨g, 0, none⟩ = some (.int .i64 p) ∧
  w.cell? ⟨b, k, none⟩ = some (.int .i64 cd.op) ∧ w.cell? ⟨b, k + 1, none⟩ = some (.int .i64 cd.a) ∧ w.cell? ⟨b, k + 2, none⟩ = some (.int .i64 cd.b) ∧ w.cell? ⟨b, k + 3, none⟩ = some (.int .i64 cd.c)

set_option maxHeartbeats 2000000 in
set_option maxRecDepth 100000 in
theorem lcost_any (o : IObj) (hv : PValid o.cs) (b : Nat) (hb : b < 256) (w : World) (vb va : Value) (s : LS) (hr : ORun o w vb va s) (hin : ∀ x ∈ s.H, StepIn o.rm.n 0 o.cs.length x) (hlen : s.H.length ≤ 2560) (hn8 : o.rm.n ≤ 8) :
    Calls Try.prog 76 #[.pointer (some ⟨o.p, 0, none⟩), .int .i64 b] w fun e w' => e = .returned (.int .i64 (costM o.cs b s.H s.H.length : Nat)) ∧ Pure w w' := by
  have HV := Lib.hid hv
  have HIN := Lib.hid hin
  have HC := Lib.hid hr.codes
  have HPW := Lib.hid hr.pure
  obtain ⟨cs, Hcs⟩ : ∃ cs, Hid (o.cs = cs) := ⟨_, rfl⟩
  obtain ⟨L, HL⟩ : ∃ L, Hid (s.H = L) := ⟨_, rfl⟩
  rw [Hcs.out] at HV HIN HC ⊢
  have HB := Lib.hid hr.bt
  have hvl : w.cell? ⟨o.pm, 0, none⟩ = some o.vl := keepPc hr.pure hr.mach.1
  have m0 : w.cell? ⟨o.p, 0, none⟩ = some (.pointer (some ⟨o.pm, 0, none⟩)) := hr.obj.cell 0
  have m3 : w.cell? ⟨o.p, 3, none⟩ = some vb := hr.obj.cell 3
  rw [HL.out] at HIN hlen HB ⊢
  obtain ⟨Av, cv, rfl⟩ := HB.out.form
  obtain ⟨vl, Hvl⟩ : ∃ vl, Hid (o.vl = vl) := ⟨_, rfl⟩
  rw [Hvl.out] at hvl HC
  obtain ⟨A, c, rfl, hnc, hcm⟩ := HC.out.form
  clear hv hin hr
  go_enter Try.func76, Try.ntmps76
  go_wp2
  go_loopg [5, 13] L.length (fun gk q i wr => ∃ k : Nat, gk + k = L.length ∧ i = .int .i64 k ∧ q = .int .i64 (costM cs b L k : Nat) ∧ Pure w wr)
  case atStart => exact ⟨0, rfl, rfl, rfl, Pure.refl _⟩
  case round =>
    obtain ⟨k, hgk, rfl, rfl, hp⟩ := hrel
    have Hgk := Lib.hid hgk
    have hkn : k ≤ L.length := by omega
    clear hgk
    by_cases hlt : k < L.length
    · obtain ⟨g, off, c', hvv, h1, h2, h3, h4⟩ := HB.out.formSome (by omega)
      injection hvv with e1 e2 e3
      subst e1
      subst e3
      have q0 := (HB.out.pure hp).cell (k * 2) (by omega)
      have q1 := (HB.out.pure hp).cell (k * 2 + 1) (by omega)
      rw [show beatsI L = beatsL L from rfl, (beatsL_at L k hlt).1] at q0
      rw [show beatsI L = beatsL L from rfl, (beatsL_at L k hlt).2, ← Nat.add_assoc] at q1
      have hst := HIN.out _ (getD_mem' hlt)
      obtain ⟨p, Hp⟩ : ∃ p, Hid ((L.getD k default).1 = p) := ⟨_, rfl⟩
      obtain ⟨mk, Hmk⟩ : ∃ mk, Hid ((L.getD k default).2.1 = mk) := ⟨_, rfl⟩
      have hpl : p < cs.length := by rw [← Hp.out]; exact hst.2.1
      have hmk : mk < 256 := by rw [← Hmk.out]; exact Nat.lt_of_lt_of_le hst.2.2.2 (powI hn8)
      rw [Hp.out] at q0
      rw [Hmk.out] at q1
      clear hst
      obtain ⟨bb, oo, rfl, hbb, hc⟩ := HC.out.at_ hpl
      obtain ⟨cd, Hcd⟩ : ∃ cd, Hid (cs.getD p default = cd) := ⟨_, rfl⟩
      have hat := hc.keep (HPW.out.trans hp) hbb
      rw [Hcd.out] at hat
      obtain ⟨r0, r1, r2, r3⟩ := hat
      clear hc
      have HCD : Hid (CdOk cd) := Lib.hid (by rw [← Hcd.out]; exact HV.out.1 _ (cdOk_mem hpl))
      obtain ⟨u, Hu⟩ : ∃ u, Hid (cdCost cd = u) := ⟨_, rfl⟩
      have hu4 : u ≤ 4 := by rw [← Hu.out]; exact cdCost_le cd
      have hsum := costM_le cs b L k
      have hband : bits .and .i64 (mk : Int) (b : Int) = ((mk &&& b : Nat) : Int) := bits_and (by omega) (by omega)
      obtain ⟨x, Hx⟩ : ∃ x, Hid (mk &&& b = x) := ⟨_, rfl⟩
      rw [Hx.out] at hband
      have Hnext : Hid (costM cs b L (k + 1) = if x = 0 then costM cs b L k else costM cs b L k + u) := Lib.hid (by
        show (if (L.getD k default).2.1 &&& b = 0 then _ else _ + cdCost (cs.getD (L.getD k default).1 default)) = _
        rw [Hp.out, Hcd.out, Hu.out, Hmk.out, Hx.out])
      obtain ⟨su, Hsu⟩ : ∃ su, Hid (costM cs b L k = su) := ⟨_, rfl⟩
      rw [Hsu.out] at Hnext hsum ⊢
      have n0 := keepPc hp m0
      have n3 := keepPc hp m3
      have nv := keepPc hp hvl
      have HPA := Lib.hid (show Pure w (wr.alloc (.cells #[.int .i64 p, .int .i64 mk] 33)) from Pure.alloc hp _)
      by_cases hx0 : x = 0
      · subst hx0
        have Hn2 : Hid (costM cs b L (k + 1) = su) := Lib.hid (by rw [Hnext.out, if_pos rfl])
        go_wp2
        go_roundg (L.length - (k + 1))
        case measure => have := Hgk.out; omega
        case rel => exact ⟨k + 1, by have := Hgk.out; omega, by go_num, by rw [Hn2.out], HPA.out⟩
      · have Hn2 : Hid (costM cs b L (k + 1) = su + u) := Lib.hid (by rw [Hnext.out, if_neg hx0])
        have hxn : ((x : Int) != 0) = true := by simp [hx0]
        clear hx0
        have hpd : Pure wr (wr.alloc (.cells #[.int .i64 p, .int .i64 mk] 33)).drew := Pure.drew (Pure.alloc (Pure.refl _) _)
        have t0 := keepPc hpd n0
        have tv := keepPc hpd nv
        have s0 := keepPc hpd r0
        have s1 := keepPc hpd r1
        have s2 := keepPc hpd r2
        have s3 := keepPc hpd r3
        have x0 : (wr.alloc (.cells #[.int .i64 p, .int .i64 mk] 33)).cell? ⟨wr.heap.size, 0, none⟩ = some (.int .i64 p) := (cell_of_row _ _ 0 _ _ _ (heap_alloc_new wr (.cells #[.int .i64 p, .int .i64 mk] 33))).trans rfl
        have x1 : (wr.alloc (.cells #[.int .i64 p, .int .i64 mk] 33)).drew.cell? ⟨wr.heap.size, 0, none⟩ = some (.int .i64 p) := keepPc (Pure.drew (Pure.refl _)) x0
        clear hpd x0
        go_wp2_with fail
        refine region_heldF (CostS o.p o.pm (.slice (some ⟨bb, oo, none⟩) cs.length c) p wr.heap.size bb (oo + p * 4) cd) (List.range 12) [12, 13, 14] (fun l => List.take 12 l) (fun l => List.drop 12 l) (by kernel_rfl) (by kernel_rfl) (by kernel_rfl) (by kernel_rfl) (fun c a d v w h => by cases d <;> exact h) (by exact ⟨t0, tv, x1, s0, s1, s2, s3⟩) ?_
        simp only [List.take_succ_cons, List.take_zero, List.drop_succ_cons, List.drop_zero]
        apply held_of
        · exact rfl
        · intro w' hS
          obtain ⟨y0, y1, y2, y3, y4, y5, y6⟩ := hS
          go_simp
          try exact rfl
        try go_simp
        apply held_of
        · exact rfl
        · intro w' hS
          obtain ⟨y0, y1, y2, y3, y4, y5, y6⟩ := hS
          go_simp
          try exact rfl
        try go_simp
        apply held_of
        · exact rfl
        · intro w' hS
          obtain ⟨y0, y1, y2, y3, y4, y5, y6⟩ := hS
          go_simp
          try exact rfl
        try go_simp
        apply held_of
        · exact rfl
        · intro w' hS
          obtain ⟨y0, y1, y2, y3, y4, y5, y6⟩ := hS
          go_simp
          try exact rfl
        try go_simp
        apply held_of
        · exact rfl
        · intro w' hS
          obtain ⟨y0, y1, y2, y3, y4, y5, y6⟩ := hS
          go_simp
          try exact rfl
        try go_simp
        apply held_of
        · exact rfl
        · intro w' hS
          obtain ⟨y0, y1, y2, y3, y4, y5, y6⟩ := hS
          go_simp
          try exact rfl
        try go_simp
        apply held_of
        · exact rfl
        · intro w' hS
          obtain ⟨y0, y1, y2, y3, y4, y5, y6⟩ := hS
          go_simp
          try exact rfl
        try go_simp
        apply held_of
        · exact rfl
        · intro w' hS
          obtain ⟨y0, y1, y2, y3, y4, y5, y6⟩ := hS
          go_simp
          try exact rfl
        try go_simp
        apply held_of
        · exact rfl
        · intro w' hS
          obtain ⟨y0, y1, y2, y3, y4, y5, y6⟩ := hS
          go_simp
          try exact rfl
        try go_simp
        apply held_of
        · exact rfl
        · intro w' hS
          obtain ⟨y0, y1, y2, y3, y4, y5, y6⟩ := hS
          go_simp
          try exact rfl
        try go_simp
        apply held_of
        · exact rfl
        · intro w' hS
          obtain ⟨y0, y1, y2, y3, y4, y5, y6⟩ := hS
          go_simp
          try exact rfl
        try go_simp
        apply held_of
        · exact rfl
        · intro w' hS
          obtain ⟨y0, y1, y2, y3, y4, y5, y6⟩ := hS
          go_simp
          try exact rfl
        try go_simp
        refine held_nil ?_
        unfold Tail
        go_wp2_with fail
        refine (icost_any cd _ HCD.out u Hu.out).mono ?_
        rintro e w3 ⟨rfl, hp3⟩
        have hS3 : CostS o.p o.pm (.slice (some ⟨bb, oo, none⟩) cs.length c) p wr.heap.size bb (oo + p * 4) cd w3 := ⟨keepPc hp3 t0, keepPc hp3 tv, keepPc hp3 x1, keepPc hp3 s0, keepPc hp3 s1, keepPc hp3 s2, keepPc hp3 s3⟩
        have HS3 := Lib.hid hS3
        clear hS3
        go_wp2
        refine And.intro HS3.out ?_
        unfold Tail
        go_wp2
        refine And.intro HS3.out ?_
        unfold Tail
        go_wp2
        go_roundg (L.length - (k + 1))
        case measure => have := Hgk.out; omega
        case rel => exact ⟨k + 1, by have := Hgk.out; omega, by go_num, by rw [Hn2.out]; go_num, (Pure.drew HPA.out).trans hp3⟩
    · have hkl : k = L.length := by omega
      subst hkl
      go_wp2
      go_ret
      exact ⟨rfl, hp⟩

end Go.Proofs.Ytkolnakcgjlcgaa
