/- Where a block ends and which block is around a place, as the reference finds them. Plain facts on reachability in a graph, and on a search that goes breadth first. No program in sight. Blocks of valid programs; the graph of a program, plainly. No program in sight. The graph of a program, as the reference makes it. Which programs are valid, where blocks open, and the graph of a program, as the program finds it. How many steps a tree of blocks can take; the turns of a loop, told from behind the first test. No program in sight. No condition. -/
import Derived.Test.YtkolnakcgjlcgaaQaa
import Derived.Test.YtkolnakcgjlcgaaQab
import Derived.Test.YtkolnakcgjlcgaaQac
import Derived.Test.YtkolnakcgjlcgaaQag
import Derived.Test.YtkolnakcgjlcgaaQah
import Derived.Test.YtkolnakcgjlcgaaQaj

namespace Go.Proofs.Ytkolnakcgjlcgaa
open Go.RowKit

set_option maxHeartbeats 400000 in
theorem l4Opens_any (c : Cd) (w : World) (B : Bool) (hB : B = true ↔ Opens c) :
    Calls Try.prog 109 #[cdv c] w fun e w' => e = .returned (.bool B) ∧ Pure w w' := by
  unfold cdv
  obtain ⟨o, a, b, c⟩ := c
  unfold Opens at hB
  simp only at hB ⊢
  have HB := Lib.hid hB; clear hB
  by_cases h11 : o = 11
  · have d11 : (o == 11) = true := by simp [h11]
    have H11 := Lib.hid h11; clear h11
    go_enter Try.func109, Try.ntmps109
    go_wp2
    go_ret
    exact ⟨ret_bool (HB.out.2 (.inl H11.out)).symm, (by repeat (first | assumption | exact Pure.refl _ | refine Pure.drewN ?_ _ | refine Pure.drew ?_ | refine Pure.alloc ?_ _ | refine Pure.setCell ?_ (by simp <;> omega) _))⟩
  · have d11 : (o == 11) = false := by simp [h11]
    have H11 := Lib.hid h11; clear h11
    go_enter Try.func109, Try.ntmps109
    go_wp2
    go_ret
    refine ⟨ret_bool ?_, (by repeat (first | assumption | exact Pure.refl _ | refine Pure.drewN ?_ _ | refine Pure.drew ?_ | refine Pure.alloc ?_ _ | refine Pure.setCell ?_ (by simp <;> omega) _))⟩
    rw [Bool.eq_iff_iff, HB.out, beq_iff_eq]
    exact ⟨fun h => .inr h, fun h => h.resolve_left H11.out⟩

def EndPost (r : Int × Int) (w : World) (e : Ending) (w' : World) : Prop := e = .returned (.tuple #[.int .i64 r.1, .int .i64 r.2]) ∧ Pure w w'

set_option maxHeartbeats 1000000 in
set_option maxRecDepth 100000 in
theorem l4End_any (v : Value) (cs : List Cd) (p : Nat) (r : Int × Int) (w : World) (h : Codes w v cs) (_hsmall : cs.length ≤ 1048576) (hp : p < cs.length) (hr : endAt cs p = r) :
    Calls Try.prog 110 #[v, .int .i64 p] w (EndPost r w) := by
  have H := Lib.hid h
  have HR := Lib.hid hr
  obtain ⟨A, c, rfl, hnc, hcm⟩ := h.form
  clear h hr
  go_enter Try.func110, Try.ntmps110
  go_wp2
  go_loopg [8, 6, 7] (cs.length - (p + 1)) (fun gk i d ot wr => ∃ (k d' : Nat) (o : Int), gk + k = cs.length ∧ i = .int .i64 k ∧ d = .int .i64 d' ∧ ot = .int .i64 o ∧ Pure w wr ∧ d' ≤ k ∧ endAt cs p = eScan (cs.drop k) k d' o)
  case atStart => exact ⟨p + 1, 0, -1, Nat.sub_add_cancel (show p + 1 ≤ cs.length from hp), by go_num, rfl, rfl, Pure.refl _, by omega, rfl⟩
  case round =>
    obtain ⟨k, d, ot, hgk, rfl, rfl, rfl, hp, hdk, hsc⟩ := hrel
    have Hgk := Lib.hid hgk
    have Hsc := Lib.hid hsc
    have hkn : k ≤ cs.length := by omega
    clear hgk hsc
    by_cases hlt : k < cs.length
    · obtain ⟨b, o, rfl, hb, hc⟩ := H.out.at_ hlt
      obtain ⟨cd, Hcd⟩ : ∃ cd, Hid (cs.getD k default = cd) := ⟨_, rfl⟩
      have hat := hc.keep hp hb
      rw [Hcd.out] at hat
      obtain ⟨q0, q1, q2, q3⟩ := hat
      clear hc
      have hdr := drop_cons hlt
      rw [Hcd.out] at hdr
      have hst := Hsc.out
      rw [hdr] at hst
      have Hst := Lib.hid hst
      clear hst hdr
      by_cases hop : Opens cd
      · go_wp2_with fail
        refine (l4Opens_any cd _ true (by simp [hop])).mono ?_
        rintro e w1 ⟨rfl, hp1⟩
        have hp2 := hp.trans hp1
        have Hop := Lib.hid hop
        clear hop q0 q1 q2 q3
        go_wp2
        go_roundg (cs.length - (k + 1))
        case measure => have := Hgk.out; omega
        case rel =>
          refine ⟨k + 1, d + 1, ot, by have := Hgk.out; omega, by go_num, by go_num, rfl, hp2, by omega, ?_⟩
          rw [Hst.out]; simp only [eScan, if_pos Hop.out]
      · go_wp2_with fail
        refine (l4Opens_any cd _ false (by simp [hop])).mono ?_
        rintro e w1 ⟨rfl, hp1⟩
        have hp2 := hp.trans hp1
        have p0 := (hp1.cell b (o + k * 4) (by have := hp.size; omega)).trans q0
        have Hop := Lib.hid hop
        clear hop q0 q1 q2 q3
        by_cases h12 : cd.op = 12
        · have d12 : (cd.op == 12) = true := by simp [h12]
          have d14 : (cd.op == 14) = false := by simp [h12]
          have H12 := Lib.hid h12
          clear h12
          by_cases hd0 : d = 0
          · subst hd0
            go_wp2
            go_roundg (cs.length - (k + 1))
            case measure => have := Hgk.out; omega
            case rel =>
              refine ⟨k + 1, 0, k, by have := Hgk.out; omega, by go_num, by go_num, rfl, hp2, by omega, ?_⟩
              rw [Hst.out]; simp only [eScan, if_neg Hop.out, H12.out, true_and, if_true]
          · have dd : ((d : Int) == 0) = false := by rw [beq_eq_false_iff_ne]; omega
            have Hd0 := Lib.hid hd0
            clear hd0
            go_wp2
            go_roundg (cs.length - (k + 1))
            case measure => have := Hgk.out; omega
            case rel =>
              refine ⟨k + 1, d, ot, by have := Hgk.out; omega, by go_num, by go_num, rfl, hp2, by omega, ?_⟩
              rw [Hst.out]; simp only [eScan, if_neg Hop.out, H12.out, Hd0.out]; simp
        · have d12 : (cd.op == 12) = false := by simp [h12]
          have H12 := Lib.hid h12
          clear h12
          by_cases h14 : cd.op = 14
          · have d14 : (cd.op == 14) = true := by simp [h14]
            have H14 := Lib.hid h14
            clear h14
            by_cases hd0 : d = 0
            · subst hd0
              have hres : r = ((k : Int), ot) := by
                rw [← HR.out, Hst.out]; unfold eScan; rw [if_neg Hop.out, if_neg (fun h => H12.out h.1), if_pos ⟨H14.out, rfl⟩]
              have Hres := Lib.hid hres
              clear hres
              go_wp2
              refine bodyPost_ret (results_tmp2 rfl _ _ _) rfl ⟨?_, hp2⟩
              rw [Hres.out]; rfl
            · have dd : ((d : Int) == 0) = false := by rw [beq_eq_false_iff_ne]; omega
              have Hd0 := Lib.hid hd0
              have hd1 : 1 ≤ d := by omega
              clear hd0
              go_wp2
              go_roundg (cs.length - (k + 1))
              case measure => have := Hgk.out; omega
              case rel =>
                refine ⟨k + 1, d - 1, ot, by have := Hgk.out; omega, by go_num, by go_num, rfl, hp2, by omega, ?_⟩
                rw [Hst.out]; simp only [eScan, if_neg Hop.out, H14.out, Hd0.out]; simp
          · have d14 : (cd.op == 14) = false := by simp [h14]
            have H14 := Lib.hid h14
            clear h14
            go_wp2
            go_roundg (cs.length - (k + 1))
            case measure => have := Hgk.out; omega
            case rel =>
              refine ⟨k + 1, d, ot, by have := Hgk.out; omega, by go_num, by go_num, rfl, hp2, by omega, ?_⟩
              rw [Hst.out]; simp only [eScan, if_neg Hop.out, if_neg (fun h : cd.op = 12 ∧ d = 0 => H12.out h.1), if_neg (fun h : cd.op = 14 ∧ d = 0 => H14.out h.1), if_neg H14.out]
    · have hkl : k = cs.length := by omega
      subst hkl
      have hres : r = (-1, ot) := by
        rw [← HR.out, Hsc.out, List.drop_length]; rfl
      have Hres := Lib.hid hres
      clear hres
      go_wp2
      refine bodyPost_ret (results_tmp2 rfl _ _ _) rfl ⟨?_, hp⟩
      rw [Hres.out]; rfl

end Go.Proofs.Ytkolnakcgjlcgaa

namespace Go.Proofs.Ytkolnakcgjlcgaa

/-- From a, b is reached without wo. -/
inductive RC (xss : List (List Int)) (wo : Int) : Int → Int → Prop where
  | refl (a : Int) (h : a ≠ wo) : RC xss wo a a
  | step (a b c : Int) (h : RC xss wo a b) (hc : c ∈ xss.getD b.toNat []) (hw : c ≠ wo) : RC xss wo a c

theorem RC.ne_left {xss : List (List Int)} {wo a b : Int} (h : RC xss wo a b) : a ≠ wo := by
  induction h <;> assumption
theorem RC.trans {xss : List (List Int)} {wo a b c : Int} (h : RC xss wo a b) (k : RC xss wo b c) : RC xss wo a c := by
  induction k with
  | refl => exact h
  | step y z _ hc hw ih => exact .step _ _ _ ih hc hw
theorem GValid.mem {xss : List (List Int)} (h : GValid xss) {k : Nat} {c : Int} (hc : c ∈ xss.getD k []) : 0 ≤ c ∧ c ≤ (xss.length : Int) - 1 := by
  by_cases hl : k < xss.length
  · obtain ⟨j, hj, e⟩ := List.mem_iff_getElem.1 hc
    have := h.1 k hl j hj
    rw [List.getD_eq_getElem?_getD (l := xss.getD k []), List.getElem?_eq_getElem hj] at this
    simp only [Option.getD_some, e] at this
    exact ⟨this.1, this.2.1⟩
  · rw [List.getD_eq_getElem?_getD, List.getElem?_eq_none (by omega)] at hc; simp at hc

/-- Numbers below n, each once, are at most n. -/
theorem nodup_len : ∀ (n : Nat) (L : List Int), L.Nodup → (∀ x ∈ L, 0 ≤ x ∧ x < n) → L.length ≤ n
  | 0, L, _, h => by
    cases L with
    | nil => simp
    | cons x l => have := h x (by simp); omega
  | n + 1, L, hd, h => by
    by_cases hm : (n : Int) ∈ L
    · have h1 := List.length_erase_of_mem hm
      have h2 : (L.erase (n : Int)).Nodup := hd.erase _
      have h3 := nodup_len n (L.erase (n : Int)) h2 (fun x hx => by
        have hx' : x ∈ L := List.mem_of_mem_erase hx
        have hne : x ≠ (n : Int) := by
          rintro rfl
          exact absurd hx (by simp [List.Nodup.mem_erase_iff hd])
        have := h x hx'
        omega)
      have : 0 < L.length := List.length_pos_of_mem hm
      omega
    · have h3 := nodup_len n L hd (fun x hx => by
        have := h x hx
        have : x ≠ (n : Int) := fun e => hm (e ▸ hx)
        omega)
      omega

structure Bfs (xss : List (List Int)) (wo fr : Int) (L : List Int) (k : Nat) : Prop where
  nd : L.Nodup
  rng : ∀ x ∈ L, 0 ≤ x ∧ x < xss.length
  rc : ∀ x ∈ L, RC xss wo fr x
  hk : k ≤ L.length
  cl : ∀ p, p < k → ∀ c ∈ xss.getD (L.getD p 0).toNat [], c ≠ wo → c ∈ L
  hfr : fr ≠ wo → fr ∈ L

section
variable {xss : List (List Int)} {wo fr : Int} {L : List Int} {k : Nat}
theorem Bfs.len (h : Bfs xss wo fr L k) : L.length ≤ xss.length := nodup_len _ _ h.nd h.rng
theorem Bfs.start (h0 : 0 ≤ fr) (h1 : fr < xss.length) (hne : fr ≠ wo) : Bfs xss wo fr [fr] 0 :=
  ⟨by simp, by simp [h0, h1], by intro x hx; simp at hx; subst hx; exact .refl _ hne, by simp, by simp, by simp⟩
theorem getD_append_left' {L M : List Int} {p : Nat} (h : p < L.length) : (L ++ M).getD p 0 = L.getD p 0 := by
  simp [List.getD_eq_getElem?_getD, List.getElem?_append_left h]
theorem Bfs.push (h : Bfs xss wo fr L k) (hlt : k < L.length) {c : Int} (hc : c ∈ xss.getD (L.getD k 0).toNat []) (hr : 0 ≤ c ∧ c ≤ (xss.length : Int) - 1) (hw : c ≠ wo) (hn : c ∉ L) : Bfs xss wo fr (L ++ [c]) k := by
  have hm : L.getD k 0 ∈ L := by simp [List.getD_eq_getElem?_getD, hlt]
  refine ⟨?_, ?_, ?_, by simp; omega, ?_, fun hf => by simp [h.hfr hf]⟩
  · rw [List.nodup_append]
    refine ⟨h.nd, by simp, ?_⟩
    intro a ha b hb
    simp at hb; subst hb
    rintro rfl
    exact hn ha
  · intro x hx
    rcases List.mem_append.1 hx with hx | hx
    · exact h.rng x hx
    · simp at hx; subst hx; omega
  · intro x hx
    rcases List.mem_append.1 hx with hx | hx
    · exact h.rc x hx
    · simp at hx; subst hx; exact .step _ _ _ (h.rc _ hm) hc hw
  · intro p hp d hd hdw
    rw [getD_append_left' (by omega)] at hd
    exact List.mem_append_left _ (h.cl p hp d hd hdw)
theorem Bfs.next (h : Bfs xss wo fr L k) (hlt : k < L.length) (ha : ∀ c ∈ xss.getD (L.getD k 0).toNat [], c ≠ wo → c ∈ L) : Bfs xss wo fr L (k + 1) :=
  ⟨h.nd, h.rng, h.rc, by omega, fun p hp c hc hw => by
    by_cases e : p = k
    · subst e; exact ha c hc hw
    · exact h.cl p (by omega) c hc hw, h.hfr⟩
theorem Bfs.done (h : Bfs xss wo fr L L.length) (x : Int) : x ∈ L ↔ RC xss wo fr x := by
  refine ⟨h.rc x, fun hr => ?_⟩
  have hf := h.hfr hr.ne_left
  induction hr with
  | refl => exact hf
  | step b c hb hc hw ih =>
    obtain ⟨p, hp, e⟩ := List.mem_iff_getElem.1 ih
    have : L.getD p 0 = b := by simp [List.getD_eq_getElem?_getD, hp, e]
    exact h.cl p hp c (by rw [this]; exact hc) hw
end

end Go.Proofs.Ytkolnakcgjlcgaa

namespace Go.Proofs.Ytkolnakcgjlcgaa

/-- A block opens at b, ends at e, and is divided at o (or o is -1). -/
structure BI (cs : List Cd) (b e : Nat) (o : Int) : Prop where
  op : Opens (cs.getD b default)
  lt : b < e
  le : e < cs.length
  en : cs.getD e default = cEnd
  ar : aroundAt cs e = b
  ends : endAt cs b = ((e : Int), o)
  el : o = -1 ∨ ∃ q : Nat, o = q ∧ b < q ∧ q < e ∧ cs.getD q default = cElse ∧ aroundAt cs q = b ∧ (cs.getD b default).op = 11

def PI (cs : List Cd) (p : Nat) : Prop :=
  (Opens (cs.getD p default) → ∃ e o, BI cs p e o) ∧ ((cs.getD p default).op = 12 → ∃ b e, BI cs b e p) ∧ ((cs.getD p default).op = 14 → ∃ b o, BI cs b p o)

theorem pi_of_seg {cs : List Cd} : ∀ (t : Tr) (i p : Nat), t.Ok → Seg cs i t → i ≤ p → p < i + t.len → PI cs p
  | .nil, i, p, _, _, h1, h2 => by simp [Tr.len, Tr.flat] at h2; omega
  | .op c k, i, p, h, hs, h1, h2 => by
    obtain ⟨⟨_, q1, q2, q3, q4⟩, h5⟩ := h
    obtain ⟨e1, _, e2⟩ := hs.op
    rw [Tr.len_op] at h2
    by_cases e : p = i
    · subst e
      unfold PI
      rw [e1]
      exact ⟨fun h => absurd h (by unfold Opens; omega), fun h => absurd h q2, fun h => absurd h q4⟩
    · exact pi_of_seg k (i + 1) p h5 e2 (by omega) (by omega)
  | .ite a t k, i, p, h, hs, h1, h2 => by
    obtain ⟨_, o1, o2⟩ := id h
    obtain ⟨e1, e2, e3, e3', e4⟩ := hs.ite
    obtain ⟨e5, e6⟩ := end_ite h hs
    have bi : BI cs i (i + 1 + t.len) (-1) := ⟨by rw [e1]; exact opens_if a, by omega, e3', e3, e6, e5, .inl rfl⟩
    rw [Tr.len_ite] at h2
    by_cases e : p = i
    · subst e
      unfold PI
      rw [e1]
      exact ⟨fun _ => ⟨_, _, bi⟩, fun h => by simp [cIf] at h, fun h => by simp [cIf] at h⟩
    · by_cases e' : p = i + 1 + t.len
      · subst e'
        unfold PI
        rw [e3]
        exact ⟨fun h => absurd h opens_end, fun h => by simp [cEnd] at h, fun _ => ⟨_, _, bi⟩⟩
      · by_cases hl : p < i + 1 + t.len
        · exact pi_of_seg t (i + 1) p o1 e2 (by omega) (by omega)
        · exact pi_of_seg k _ p o2 e4 (by omega) (by omega)
  | .itee a t e k, i, p, h, hs, h1, h2 => by
    obtain ⟨_, o1, o2, o3⟩ := id h
    obtain ⟨e1, e2, e3, e4, e5, e5', e6⟩ := hs.itee
    obtain ⟨e7, e8, e9⟩ := end_itee h hs
    have bi : BI cs i (i + 1 + t.len + 1 + e.len) ((i + 1 + t.len : Nat) : Int) := ⟨by rw [e1]; exact opens_if a, by omega, e5', e5, e9, e7, .inr ⟨_, rfl, by omega, by omega, e3, e8, by rw [e1]; rfl⟩⟩
    rw [Tr.len_itee] at h2
    by_cases q : p = i
    · subst q
      unfold PI
      rw [e1]
      exact ⟨fun _ => ⟨_, _, bi⟩, fun h => by simp [cIf] at h, fun h => by simp [cIf] at h⟩
    · by_cases q' : p = i + 1 + t.len
      · subst q'
        unfold PI
        rw [e3]
        exact ⟨fun h => absurd h opens_else, fun _ => ⟨_, _, bi⟩, fun h => by simp [cElse] at h⟩
      · by_cases q'' : p = i + 1 + t.len + 1 + e.len
        · subst q''
          unfold PI
          rw [e5]
          exact ⟨fun h => absurd h opens_end, fun h => by simp [cEnd] at h, fun _ => ⟨_, _, bi⟩⟩
        · by_cases hl : p < i + 1 + t.len
          · exact pi_of_seg t (i + 1) p o1 e2 (by omega) (by omega)
          · by_cases hl2 : p < i + 1 + t.len + 1 + e.len
            · exact pi_of_seg e _ p o2 e4 (by omega) (by omega)
            · exact pi_of_seg k _ p o3 e6 (by omega) (by omega)
  | .loop a b t k, i, p, h, hs, h1, h2 => by
    obtain ⟨_, _, o1, o2⟩ := id h
    obtain ⟨e1, e2, e3, e3', e4⟩ := hs.loop
    obtain ⟨e5, e6⟩ := end_loop h hs
    have bi : BI cs i (i + 1 + t.len) (-1) := ⟨by rw [e1]; exact opens_loop a b, by omega, e3', e3, e6, e5, .inl rfl⟩
    rw [Tr.len_loop] at h2
    by_cases e : p = i
    · subst e
      unfold PI
      rw [e1]
      exact ⟨fun _ => ⟨_, _, bi⟩, fun h => by simp [cLoop] at h, fun h => by simp [cLoop] at h⟩
    · by_cases e' : p = i + 1 + t.len
      · subst e'
        unfold PI
        rw [e3]
        exact ⟨fun h => absurd h opens_end, fun h => by simp [cEnd] at h, fun _ => ⟨_, _, bi⟩⟩
      · by_cases hl : p < i + 1 + t.len
        · exact pi_of_seg t (i + 1) p o1 e2 (by omega) (by omega)
        · exact pi_of_seg k _ p o2 e4 (by omega) (by omega)

theorem PValid.pi {cs : List Cd} (h : PValid cs) {p : Nat} (hp : p < cs.length) : PI cs p := by
  obtain ⟨t, e, h1, _⟩ := h.tree
  exact pi_of_seg t 0 p h1 (Seg.whole e) (by omega) (by have : cs.length = t.len := by rw [e]; rfl
                                                        omega)

/-- The successors of a place. -/
def succs (cs : List Cd) (k : Nat) : List Int :=
  let c := cs.getD k default
  if Opens c then
    let to := if 0 ≤ (endAt cs k).2 then (endAt cs k).2 + 1 else (endAt cs k).1 + 1
    if to = (k : Int) + 1 then [(k : Int) + 1] else [(k : Int) + 1, to]
  else if c.op = 12 then [(endAt cs (aroundAt cs k).toNat).1 + 1]
  else if c.op = 14 then
    (if (cs.getD (aroundAt cs k).toNat default).op = 13 then [aroundAt cs k + 1, (k : Int) + 1] else [(k : Int) + 1])
  else [(k : Int) + 1]
end Go.Proofs.Ytkolnakcgjlcgaa

namespace Go.Proofs.Ytkolnakcgjlcgaa
open Go.RowKit

/-- A table of rows of numbers, all of the call's own. -/
def RowsO (w : World) (B : Nat) (q : Value) (n : Nat) (S : Nat → List Int) (vs : List Value) : Prop :=
  OwnO w B 24 1 q n vs ∧ ∀ j, j < n → ∃ r, vs[j]? = some r ∧ OwnO w B 3 1 r (S j).length ((S j).map (.int .i64))
theorem RowsO.pure {w w' : World} {B n : Nat} {q : Value} {S : Nat → List Int} {vs : List Value} (h : RowsO w B q n S vs) (hp : Pure w w') : RowsO w' B q n S vs :=
  ⟨h.1.pure hp, fun j hj => let ⟨r, a, b⟩ := h.2 j hj; ⟨r, a, b.pure hp⟩⟩
theorem RowsO.push {w w' : World} {B n : Nat} {q q' r : Value} {S : Nat → List Int} {vs : List Value} (h : RowsO w B q n S vs) (hr : OwnO w B 3 1 r (S n).length ((S n).map (.int .i64))) (hq : OwnO w' B 24 1 q' (n + 1) (vs ++ [r])) (hg : w.grownBy w' q.ownBlock) :
    RowsO w' B q' (n + 1) S (vs ++ [r]) := by
  refine ⟨hq, fun j hj => ?_⟩
  have hl : vs.length = n := by have := h.1.1; omega
  by_cases e : j = n
  · subst e
    exact ⟨r, by rw [List.getElem?_append_right (by omega), hl]; simp, hr.kept hg (fun g hg2 => hr.ne h.1 (by decide) g hg2)⟩
  · obtain ⟨r', a, b⟩ := h.2 j (by omega)
    exact ⟨r', by rw [List.getElem?_append_left (by omega)]; exact a, b.kept hg (fun g hg2 => b.ne h.1 (by decide) g hg2)⟩
theorem Ints.of_ownO {w : World} {B e : Nat} {v : Value} {ys : List Int} (h : OwnO w B e 1 v ys.length (ys.map (.int .i64))) : Ints w v ys := by
  unfold Ints
  refine Cells.of_ownO h fun j hj => ?_
  have : j < ys.length := by omega
  simp [List.getD_eq_getElem?_getD, this]
theorem RowsO.rows {w : World} {B n : Nat} {q : Value} {S : Nat → List Int} {vs : List Value} (h : RowsO w B q n S vs) : IntRows w q ((List.range n).map S) := by
  have hl : ((List.range n).map S).length = n := by simp
  obtain ⟨A, c, rfl⟩ := h.1.form
  have hc := Cells.of_ownO (f := fun j => vs.getD j undef) h.1 (fun j hj => by
    obtain ⟨r, a, _⟩ := h.2 j (by omega)
    simp [List.getD_eq_getElem?_getD, a])
  obtain ⟨A', c', hv, h1, h2, h3⟩ := hc
  injection hv with e1 e2 e3
  subst e1 e3
  refine ⟨A, c, by rw [hl], by omega, h2, fun hn => ?_⟩
  rw [hl] at hn
  obtain ⟨b, o, e, hb, hc⟩ := h3 hn
  refine ⟨b, o, e, hb, fun k hk => ?_⟩
  rw [hl] at hk
  obtain ⟨r, a, b2⟩ := h.2 k hk
  refine ⟨r, ?_, ?_⟩
  · rw [hc k (by omega)]; simp [List.getD_eq_getElem?_getD, a]
  · have : ((List.range n).map S).getD k [] = S k := by simp [List.getD_eq_getElem?_getD, hk]
    rw [this]
    exact Ints.of_ownO b2

end Go.Proofs.Ytkolnakcgjlcgaa

namespace Go.Proofs.Ytkolnakcgjlcgaa
open Go.RowKit

set_option maxHeartbeats 1000000 in
set_option maxRecDepth 100000 in
theorem ipv_any (v : Value) (cs : List Cd) (w : World) (h : Codes w v cs) (hsmall : cs.length ≤ 1048576) (B : Bool) (hB : B = true ↔ PValid cs) :
    Calls Try.prog 51 #[v] w fun e w' => e = .returned (.bool B) ∧ Pure w w' := by
  have H := Lib.hid h
  have HB := Lib.hid hB
  obtain ⟨A, c, rfl, hnc, hcm⟩ := h.form
  clear h hB
  have HBF : Hid (¬ PValid cs → false = B) := fun h => by
    cases hb : B
    · rfl
    · exact absurd (HB.out.1 hb) h
  by_cases h40 : 40 < cs.length
  · go_enter Try.func51, Try.ntmps51
    go_wp2
    go_ret
    exact ⟨ret_bool (HBF.out (fun h => by have := h.2.1; omega)), Pure.refl _⟩
  · have h40' : cs.length ≤ 40 := by omega
    clear h40
    go_enter Try.func51, Try.ntmps51
    go_wp2
    go_loopg [13] cs.length (fun gk i wr => ∃ k : Nat, gk + k = cs.length ∧ i = .int .i64 k ∧ Pure w wr ∧ ∀ j, j < k → CdOk (cs.getD j default))
    case atStart => exact ⟨0, rfl, rfl, Pure.refl _, fun j hj => absurd hj (by omega)⟩
    case round =>
      obtain ⟨k, hgk, rfl, hp, hall⟩ := hrel
      have Hgk := Lib.hid hgk
      have Hall := Lib.hid hall
      have hkn : k ≤ cs.length := by omega
      clear hgk hall
      by_cases hlt : k < cs.length
      · obtain ⟨b, o, rfl, hb, hc⟩ := H.out.at_ hlt
        obtain ⟨cd, Hcd⟩ : ∃ cd, Hid (cs.getD k default = cd) := ⟨_, rfl⟩
        have hat := hc.keep hp hb
        rw [Hcd.out] at hat
        obtain ⟨q0, q1, q2, q3⟩ := hat
        clear hc
        have hpA := Lib.hid (Pure.alloc hp (.cells #[.int .i64 cd.op, .int .i64 cd.a, .int .i64 cd.b, .int .i64 cd.c] 36))
        by_cases hok : CdOk cd
        · have Hok := Lib.hid hok; clear hok
          have Hnext : Hid (∀ j, j < k + 1 → CdOk (cs.getD j default)) := fun j hj => by
            by_cases e : j = k
            · rw [e, Hcd.out]; exact Hok.out
            · exact Hall.out j (by omega)
          go_wp2_with fail
          refine (icv_any cd _ true (by simp [Hok.out])).mono ?_
          rintro e w1 ⟨rfl, hp1⟩
          have hp2 := Lib.hid (hpA.out.trans hp1)
          go_wp2
          go_roundg (cs.length - (k + 1))
          case measure => have := Hgk.out; omega
          case rel => exact ⟨k + 1, by have := Hgk.out; omega, by go_num, hp2.out, Hnext.out⟩
        · have Hok := Lib.hid hok; clear hok
          have hbad : ¬ PValid cs := fun h => Hok.out (by rw [← Hcd.out]; exact h.1 _ (cdOk_mem hlt))
          have Hbad := Lib.hid hbad
          clear hbad
          go_wp2_with fail
          refine (icv_any cd _ false (by simp [Hok.out])).mono ?_
          rintro e w1 ⟨rfl, hp1⟩
          have hp2 := Lib.hid (hpA.out.trans hp1)
          go_wp2
          go_ret
          exact ⟨ret_bool (HBF.out Hbad.out), hp2.out⟩
      · have hkl : k = cs.length := by omega
        subst hkl
        have Hcd : Hid (∀ c ∈ cs, CdOk c) := cdOk_all Hall.out
        go_wp2_with fail
        refine (blocks_any _ cs _ (H.out.keep hp) h40').mono ?_
        rintro e w2 ⟨hp2, hm⟩
        have hp3 := Lib.hid (hp.trans hp2)
        cases hs : sscan cs 0 [] with
        | none =>
          rw [hs] at hm
          subst hm
          have Hs := Lib.hid hs
          clear hs
          go_wp2
          go_ret
          exact ⟨ret_bool (HBF.out (fun h => by have := h.2.2; rw [Hs.out] at this; cases this)), hp3.out⟩
        | some st =>
          rw [hs] at hm
          obtain ⟨va, vo, rfl, ht⟩ := hm
          have Hs := Lib.hid hs
          have Ht := Lib.hid ht
          clear hs ht
          obtain ⟨D, HD⟩ : ∃ D, Hid (decide (st.length = 0) = D) := ⟨_, rfl⟩
          rw [HD.out]
          have hDB : D = B := by
            have h1 := HD.out
            have h2 := HB.out
            cases D
            · refine HBF.out fun h => ?_
              have := h.2.2
              rw [Hs.out] at this
              injection this with this
              simp [this] at h1
            · simp at h1
              subst h1
              exact (h2.2 ⟨Hcd.out, h40', Hs.out⟩).symm
          subst hDB
          clear HD
          go_wp2
          go_ret
          exact ⟨rfl, hp3.out⟩

end Go.Proofs.Ytkolnakcgjlcgaa

namespace Go.Proofs.Ytkolnakcgjlcgaa

def Tr.cost : Tr → Nat
  | .nil => 0
  | .op _ k => 1 + k.cost
  | .ite _ t k => 1 + t.cost + k.cost
  | .itee _ t e k => 1 + t.cost + e.cost + k.cost
  | .loop _ b t k => 1 + b.toNat * t.cost + k.cost
theorem lanesTo_H (c : Cd) (m mask : Nat) : ∀ (j : Nat) (s : LS), (lanesTo c m mask j s).H = s.H
  | 0, _ => rfl
  | j + 1, s => by
    show (if _ then _ else _ : LS).H = _
    split
    · exact lanesTo_H c m mask j s
    · exact lanesTo_H c m mask j s
theorem exec_H (c : Cd) (n m i mask : Nat) (s : LS) : (exec c n m i mask s).H = s.H ++ [(i, mask, s.R)] := by
  unfold exec
  simp only
  split
  · exact lanesTo_H c m mask n _
  · exact lanesTo_H c m mask n _
theorem turns_H {F : Nat → LS → LS} {n a c : Nat} (hF : ∀ y s, (F y s).H.length ≤ s.H.length + c) : ∀ (b y : Nat) (s : LS), (turns F n a b y s).H.length ≤ s.H.length + b * c
  | 0, _, _ => by simp [turns]
  | b + 1, y, s => by
    have h1 := turns_H (n := n) (a := a) hF b (onesTo s.R y a n) (F (onesTo s.R y a n) s)
    have h2 := hF (onesTo s.R y a n) s
    have h3 : (b + 1) * c = b * c + c := Nat.succ_mul b c
    show (turns F n a b _ _).H.length ≤ _
    omega
theorem run_H (n m : Nat) : ∀ (t : Tr) (i mask : Nat) (s : LS), (run n m t i mask s).H.length ≤ s.H.length + t.cost
  | .nil, _, _, _ => by simp [run, Tr.cost]
  | .op c k, i, mask, s => by
    show (if _ then _ else _ : LS).H.length ≤ s.H.length + (1 + k.cost)
    split
    · omega
    · have := run_H n m k (i + 1) mask (exec c n m i mask s)
      rw [exec_H] at this
      simp at this
      omega
  | .ite a t k, i, mask, s => by
    show (if _ then _ else _ : LS).H.length ≤ s.H.length + (1 + t.cost + k.cost)
    split
    · omega
    · have h1 := run_H n m k (i + 1 + t.len + 1) mask (run n m t (i + 1) (onesTo s.R mask a.toNat n) (beat i mask s))
      have h2 := run_H n m t (i + 1) (onesTo s.R mask a.toNat n) (beat i mask s)
      have h3 : (beat i mask s).H.length = s.H.length + 1 := by simp [beat]
      omega
  | .itee a t e k, i, mask, s => by
    show (if _ then _ else _ : LS).H.length ≤ s.H.length + (1 + t.cost + e.cost + k.cost)
    split
    · omega
    · have h1 := run_H n m k (i + 1 + t.len + 1 + e.len + 1) mask (run n m e (i + 1 + t.len + 1) (del mask (onesTo s.R mask a.toNat n)) (run n m t (i + 1) (onesTo s.R mask a.toNat n) (beat i mask s)))
      have h2 := run_H n m e (i + 1 + t.len + 1) (del mask (onesTo s.R mask a.toNat n)) (run n m t (i + 1) (onesTo s.R mask a.toNat n) (beat i mask s))
      have h4 := run_H n m t (i + 1) (onesTo s.R mask a.toNat n) (beat i mask s)
      have h3 : (beat i mask s).H.length = s.H.length + 1 := by simp [beat]
      omega
  | .loop a b t k, i, mask, s => by
    show (if _ then _ else _ : LS).H.length ≤ s.H.length + (1 + b.toNat * t.cost + k.cost)
    split
    · omega
    · have h1 := run_H n m k (i + 1 + t.len + 1) mask (turns (run n m t (i + 1)) n a.toNat b.toNat mask (beat i mask s))
      have h2 := turns_H (F := run n m t (i + 1)) (n := n) (a := a.toNat) (c := t.cost) (fun y s => run_H n m t (i + 1) y s) b.toNat mask (beat i mask s)
      have h3 : (beat i mask s).H.length = s.H.length + 1 := by simp [beat]
      omega
/-- A tree of at most 40 instructions, nested to a depth of 3, takes few steps. -/
theorem cost_le : ∀ (t : Tr) (d : Nat), t.Ok → t.depth ≤ d → t.cost ≤ t.len * 4 ^ d
  | .nil, d, _, _ => by simp [Tr.cost]
  | .op c k, d, h, hd => by
    have := cost_le k d h.2 hd
    have h4 : 1 ≤ 4 ^ d := Nat.one_le_pow _ _ (by decide)
    rw [Tr.len_op, Nat.add_mul]
    simp only [Tr.cost]; omega
  | .ite a t k, d, h, hd => by
    simp only [Tr.depth] at hd
    have h1 := cost_le t d h.2.1 (by omega)
    have h2 := cost_le k d h.2.2 (by omega)
    have h4 : 1 ≤ 4 ^ d := Nat.one_le_pow _ _ (by decide)
    rw [Tr.len_ite, Nat.add_mul, Nat.add_mul, Nat.add_mul]
    simp only [Tr.cost]; omega
  | .itee a t e k, d, h, hd => by
    simp only [Tr.depth] at hd
    have h1 := cost_le t d h.2.1 (by omega)
    have h2 := cost_le e d h.2.2.1 (by omega)
    have h3 := cost_le k d h.2.2.2 (by omega)
    have h4 : 1 ≤ 4 ^ d := Nat.one_le_pow _ _ (by decide)
    rw [Tr.len_itee, Nat.add_mul, Nat.add_mul, Nat.add_mul, Nat.add_mul, Nat.add_mul]
    simp only [Tr.cost]; omega
  | .loop a b t k, 0, h, hd => by simp only [Tr.depth] at hd; omega
  | .loop a b t k, d + 1, h, hd => by
    simp only [Tr.depth] at hd
    have h1 := cost_le t d h.2.2.1 (by omega)
    have h2 := cost_le k (d + 1) h.2.2.2 (by omega)
    have h4 : 1 ≤ 4 ^ (d + 1) := Nat.one_le_pow _ _ (by decide)
    have hb : b.toNat ≤ 4 := by have := h.2.1; omega
    have h5 : b.toNat * t.cost ≤ 4 * (t.len * 4 ^ d) := Nat.mul_le_mul hb h1
    have h6 : 4 * (t.len * 4 ^ d) = t.len * 4 ^ (d + 1) := by rw [Nat.pow_succ]; rw [← Nat.mul_assoc, Nat.mul_comm 4 t.len, Nat.mul_assoc, Nat.mul_comm 4]
    rw [Tr.len_loop, Nat.add_mul, Nat.add_mul, Nat.add_mul]
    simp only [Tr.cost]; omega
theorem PValid.cost {cs : List Cd} {t : Tr} (h : PValid cs) (e : cs = t.flat) (hok : t.Ok) (hd : t.depth ≤ 3) : t.cost ≤ 2560 := by
  have h1 := cost_le t 3 hok hd
  have h2 : t.len ≤ 40 := by have := h.2.1; rw [e] at this; exact this
  have h3 : t.len * 4 ^ 3 ≤ 40 * 4 ^ 3 := Nat.mul_le_mul_right _ h2
  omega

/-- The turns of a loop, where the lanes of the next turn are known. -/
def turnsR (F : Nat → LS → LS) (n a : Nat) : Nat → Nat → LS → LS
  | 0, _, s => s
  | b + 1, y, s => turnsR F n a b (onesTo (F y s).R y a n) (F y s)
theorem turns_eq (F : Nat → LS → LS) (n a : Nat) : ∀ (b y : Nat) (s : LS), turns F n a b y s = turnsR F n a b (onesTo s.R y a n) s
  | 0, _, _ => rfl
  | b + 1, y, s => by
    show turns F n a b _ _ = turnsR F n a b _ _
    rw [turns_eq F n a b]
theorem turnsR_zero {n m a : Nat} {t : Tr} {i : Nat} : ∀ (b : Nat) (s : LS), turnsR (run n m t i) n a b 0 s = s
  | 0, _ => rfl
  | b + 1, s => by
    show turnsR _ _ _ b (onesTo (run n m t i 0 s).R 0 a n) (run n m t i 0 s) = s
    rw [onesTo_none, run_zero, turnsR_zero b s]
theorem turnsR_succ (F : Nat → LS → LS) (n a b y : Nat) (s : LS) : turnsR F n a (b + 1) y s = turnsR F n a b (onesTo (F y s).R y a n) (F y s) := rfl
theorem Tr.len_zero {t : Tr} (h : t.len = 0) : t = .nil := by
  cases t with
  | nil => rfl
  | op c k => rw [Tr.len_op] at h; omega
  | ite a t k => rw [Tr.len_ite] at h; omega
  | itee a t e k => rw [Tr.len_itee] at h; omega
  | loop a b t k => rw [Tr.len_loop] at h; omega

end Go.Proofs.Ytkolnakcgjlcgaa
