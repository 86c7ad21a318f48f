/- Plain facts on reachability in a graph, and on a search that goes breadth first. No program in sight. -/
import Derived.Test.YtokdfgodmhekmaaGV
namespace Go.Proofs.Ytokdfgodmhekmaa

/-- From a, b is reached without wo. -/
inductive RC (xss : List (List Int)) (wo : Int) : Int → Int → Prop where
  | refl (a : Int) (h : a ≠ wo) : RC xss wo a a
  | step (a b c : Int) (h : RC xss wo a b) (hc : c ∈ xss.getD b.toNat []) (hw : c ≠ wo) : RC xss wo a c

theorem RC.ne_right {xss : List (List Int)} {wo a b : Int} (h : RC xss wo a b) : b ≠ wo := by
  cases h <;> assumption
theorem RC.ne_left {xss : List (List Int)} {wo a b : Int} (h : RC xss wo a b) : a ≠ wo := by
  induction h <;> assumption
theorem RC.trans {xss : List (List Int)} {wo a b c : Int} (h : RC xss wo a b) (k : RC xss wo b c) : RC xss wo a c := by
  induction k with
  | refl => exact h
  | step y z _ hc hw ih => exact .step _ _ _ ih hc hw
theorem RC.weaken {xss : List (List Int)} {wo a b : Int} (h : RC xss wo a b) (hneg : ∀ k, k < xss.length → ∀ c, c ∈ xss.getD k [] → 0 ≤ c) (ha : 0 ≤ a) : RC xss (-1) a b := by
  induction h with
  | refl => exact .refl _ (by omega)
  | step y z hy hc hw ih =>
    refine .step _ _ _ ih hc ?_
    by_cases hl : y.toNat < xss.length
    · have := hneg _ hl z hc; omega
    · rw [List.getD_eq_getElem?_getD, List.getElem?_eq_none (by omega)] at hc; simp at hc

theorem GValid.mem {xss : List (List Int)} (h : GValid xss) {k : Nat} {c : Int} (hc : c ∈ xss.getD k []) : 0 ≤ c ∧ c ≤ (xss.length : Int) - 1 := by
  by_cases hl : k < xss.length
  · obtain ⟨j, hj, e⟩ := List.mem_iff_getElem.1 hc
    have := h.1 k hl j hj
    rw [List.getD_eq_getElem?_getD (l := xss.getD k []), List.getElem?_eq_getElem hj] at this
    simp only [Option.getD_some, e] at this
    exact ⟨this.1, this.2.1⟩
  · rw [List.getD_eq_getElem?_getD, List.getElem?_eq_none (by omega)] at hc; simp at hc

/-- Numbers below n, each once, are at most n. -/
theorem nodup_len : ∀ (n : Nat) (L : List Int), L.Nodup → (∀ x ∈ L, 0 ≤ x ∧ x < n) → L.length ≤ n
  | 0, L, _, h => by
    cases L with
    | nil => simp
    | cons x l => have := h x (by simp); omega
  | n + 1, L, hd, h => by
    by_cases hm : (n : Int) ∈ L
    · have h1 := List.length_erase_of_mem hm
      have h2 : (L.erase (n : Int)).Nodup := hd.erase _
      have h3 := nodup_len n (L.erase (n : Int)) h2 (fun x hx => by
        have hx' : x ∈ L := List.mem_of_mem_erase hx
        have hne : x ≠ (n : Int) := by
          rintro rfl
          exact absurd hx (by simp [List.Nodup.mem_erase_iff hd])
        have := h x hx'
        omega)
      have : 0 < L.length := List.length_pos_of_mem hm
      omega
    · have h3 := nodup_len n L hd (fun x hx => by
        have := h x hx
        have : x ≠ (n : Int) := fun e => hm (e ▸ hx)
        omega)
      omega

structure Bfs (xss : List (List Int)) (wo fr : Int) (L : List Int) (k : Nat) : Prop where
  nd : L.Nodup
  rng : ∀ x ∈ L, 0 ≤ x ∧ x < xss.length
  rc : ∀ x ∈ L, RC xss wo fr x
  hk : k ≤ L.length
  cl : ∀ p, p < k → ∀ c ∈ xss.getD (L.getD p 0).toNat [], c ≠ wo → c ∈ L
  hfr : fr ≠ wo → fr ∈ L

section
variable {xss : List (List Int)} {wo fr : Int} {L : List Int} {k : Nat}
theorem Bfs.len (h : Bfs xss wo fr L k) : L.length ≤ xss.length := nodup_len _ _ h.nd h.rng
theorem Bfs.start (h0 : 0 ≤ fr) (h1 : fr < xss.length) (hne : fr ≠ wo) : Bfs xss wo fr [fr] 0 :=
  ⟨by simp, by simp [h0, h1], by intro x hx; simp at hx; subst hx; exact .refl _ hne, by simp, by simp, by simp⟩
theorem Bfs.empty (hne : fr = wo) : Bfs xss wo fr [] 0 := ⟨by simp, by simp, by simp, by simp, by simp, fun h => absurd hne h⟩
theorem getD_append_left' {L M : List Int} {p : Nat} (h : p < L.length) : (L ++ M).getD p 0 = L.getD p 0 := by
  simp [List.getD_eq_getElem?_getD, List.getElem?_append_left h]
theorem Bfs.push (h : Bfs xss wo fr L k) (hlt : k < L.length) {c : Int} (hc : c ∈ xss.getD (L.getD k 0).toNat []) (hr : 0 ≤ c ∧ c ≤ (xss.length : Int) - 1) (hw : c ≠ wo) (hn : c ∉ L) : Bfs xss wo fr (L ++ [c]) k := by
  have hm : L.getD k 0 ∈ L := by simp [List.getD_eq_getElem?_getD, hlt]
  refine ⟨?_, ?_, ?_, by simp; omega, ?_, fun hf => by simp [h.hfr hf]⟩
  · rw [List.nodup_append]
    refine ⟨h.nd, by simp, ?_⟩
    intro a ha b hb
    simp at hb; subst hb
    rintro rfl
    exact hn ha
  · intro x hx
    rcases List.mem_append.1 hx with hx | hx
    · exact h.rng x hx
    · simp at hx; subst hx; omega
  · intro x hx
    rcases List.mem_append.1 hx with hx | hx
    · exact h.rc x hx
    · simp at hx; subst hx; exact .step _ _ _ (h.rc _ hm) hc hw
  · intro p hp d hd hdw
    rw [getD_append_left' (by omega)] at hd
    exact List.mem_append_left _ (h.cl p hp d hd hdw)
theorem Bfs.next (h : Bfs xss wo fr L k) (hlt : k < L.length) (ha : ∀ c ∈ xss.getD (L.getD k 0).toNat [], c ≠ wo → c ∈ L) : Bfs xss wo fr L (k + 1) :=
  ⟨h.nd, h.rng, h.rc, by omega, fun p hp c hc hw => by
    by_cases e : p = k
    · subst e; exact ha c hc hw
    · exact h.cl p (by omega) c hc hw, h.hfr⟩
theorem Bfs.done (h : Bfs xss wo fr L L.length) (x : Int) : x ∈ L ↔ RC xss wo fr x := by
  refine ⟨h.rc x, fun hr => ?_⟩
  have hf := h.hfr hr.ne_left
  induction hr with
  | refl => exact hf
  | step b c hb hc hw ih =>
    obtain ⟨p, hp, e⟩ := List.mem_iff_getElem.1 ih
    have : L.getD p 0 = b := by simp [List.getD_eq_getElem?_getD, hp, e]
    exact h.cl p hp c (by rw [this]; exact hc) hw
end

end Go.Proofs.Ytokdfgodmhekmaa
