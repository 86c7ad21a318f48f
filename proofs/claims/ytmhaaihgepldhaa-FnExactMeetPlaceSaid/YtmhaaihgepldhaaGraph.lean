/- Graphs: the program's GraphValid, slices.Index and Contains, isNode, areNodes. No condition. -/
import Derived.Test.YtmhaaihgepldhaaGV
namespace Go.Proofs.Ytmhaaihgepldhaa
open Go.RowKit

def IdxPost (xs : List Int) (x : Int) (w : World) (e : Ending) (w' : World) : Prop := (∃ r : Int, e = .returned (.int .i64 r) ∧ (0 ≤ r ↔ x ∈ xs)) ∧ w = w'

theorem mem_getD {xs : List Int} {x : Int} : x ∈ xs ↔ ∃ j, j < xs.length ∧ xs.getD j 0 = x := by
  rw [List.mem_iff_getElem]
  constructor
  · rintro ⟨j, hj, h⟩; exact ⟨j, hj, by simpa [List.getD_eq_getElem?_getD, hj] using h⟩
  · rintro ⟨j, hj, h⟩; exact ⟨j, hj, by simpa [List.getD_eq_getElem?_getD, hj] using h⟩

set_option maxHeartbeats 400000 in
theorem index_any (v : Value) (xs : List Int) (x : Int) (w : World) (h : Ints w v xs) :
    Calls Try.prog 94 #[v, .int .i64 x] w (IdxPost xs x w) := by
  obtain ⟨A, c, rfl, hnc, hcm, hread⟩ := h
  go_enter Try.func94, Try.ntmps94
  go_wp2
  go_loop [8] (fun i => ∃ k : Nat, k ≤ xs.length ∧ i = .int .i64 k ∧ ∀ j, j < k → xs.getD j 0 ≠ x) (fun i => xs.length - (intOf i).toNat)
  case atStart => exact ⟨0, Nat.zero_le _, rfl, fun j hj => absurd hj (by omega)⟩
  case round =>
    obtain ⟨k, hk, rfl, hne⟩ := hrel
    have Hne := Lib.hid hne; clear hne
    by_cases hlt : k < xs.length
    · obtain ⟨b, o, rfl, hb, hc⟩ := hread (by omega)
      have hy := hc k (by omega)
      clear hread hc
      obtain ⟨y, Hy⟩ : ∃ y, Hid (xs.getD k 0 = y) := ⟨_, rfl⟩
      rw [Hy.out] at hy
      by_cases hxy : x = y
      · have hd : (x == y) = true := by simp [hxy]
        have Hxy := Lib.hid hxy; clear hxy
        go_wp2
        go_ret
        exact ⟨⟨_, rfl, ⟨fun _ => mem_getD.2 ⟨k, hlt, Hy.out.trans Hxy.out.symm⟩, fun _ => by omega⟩⟩, rfl⟩
      · have hd : (x == y) = false := by simp [hxy]
        have Hxy := Lib.hid hxy; clear hxy
        go_wp2
        go_round
        case rel =>
          refine ⟨k + 1, by omega, by go_num, fun j hj => ?_⟩
          by_cases e : j = k
          · subst e; rw [Hy.out]; exact fun e => Hxy.out e.symm
          · exact Hne.out j (by omega)
        case measure => simp [intOf]; omega
    · clear hread
      go_wp2
      go_ret
      refine ⟨⟨_, rfl, ⟨fun h => absurd h (by omega), fun h => ?_⟩⟩, rfl⟩
      obtain ⟨j, hj, e⟩ := mem_getD.1 h
      exact absurd e (Hne.out j (by omega))

set_option maxHeartbeats 400000 in
theorem contains_any (v : Value) (xs : List Int) (x : Int) (w : World) (h : Ints w v xs) (B : Bool) (hB : B = true ↔ x ∈ xs) :
    Calls Try.prog 85 #[v, .int .i64 x] w fun e w' => e = .returned (.bool B) ∧ w = w' := by
  have HB := Lib.hid hB; clear hB
  go_enter Try.func85, Try.ntmps85
  go_wp2_with (go_at_call 94; refine (index_any _ _ _ _ h).mono ?_; rintro e w' ⟨⟨r, rfl, hr⟩, rfl⟩; have Hr := Lib.hid hr; clear hr)
  go_ret
  refine ⟨ret_bool ?_, rfl⟩
  rw [Bool.eq_iff_iff, HB.out, decide_eq_true_iff]
  exact Hr.out

theorem Ints.take {w : World} {b o c : Nat} {xs : List Int} (h : Ints w (.slice (some ⟨b, o, none⟩) xs.length c) xs) {k : Nat} (hk : k ≤ xs.length) : Ints w (.slice (some ⟨b, o, none⟩) k c) (xs.take k) := by
  obtain ⟨A, c', hv, h2, h3, h4⟩ := h
  injection hv with e1 e2 e3
  subst e1 e3
  have hl : (xs.take k).length = k := by simp; omega
  refine ⟨_, c, by rw [hl], by omega, h3, fun hn => ?_⟩
  obtain ⟨b', o', e, hb, hc⟩ := h4 (by omega)
  injection e with e
  injection e with e1 e2
  subst e1 e2
  refine ⟨b, o, rfl, hb, fun j hj => ?_⟩
  rw [hl] at hj
  rw [hc j (by omega)]
  have h1 : j < xs.length := by omega
  have h2 : j < k := by omega
  simp [List.getD_eq_getElem?_getD, List.getElem?_take, h2]

set_option maxHeartbeats 1000000 in
set_option maxRecDepth 100000 in
theorem igv_any (v : Value) (xss : List (List Int)) (w : World) (h : IntRows w v xss) (B : Bool) (hB : B = true ↔ GValid xss) :
    Calls Try.prog 64 #[v] w fun e w' => e = .returned (.bool B) ∧ w = w' := by
  obtain ⟨A, c, rfl, hnc, hcm, hread⟩ := h
  have HB := Lib.hid hB; clear hB
  go_enter Try.func64, Try.ntmps64
  go_wp2
  go_loop [9] (fun a => ∃ k : Nat, k ≤ xss.length ∧ a = .int .i64 k ∧ (∀ k', k' < k → rowOk xss.length (xss.getD k' []) (xss.getD k' []).length)) (fun a => xss.length - (intOf a).toNat)
  case atStart => exact ⟨0, Nat.zero_le _, rfl, (fun _ h => absurd h (by omega))⟩
  case round =>
    obtain ⟨k, hk, rfl, hok⟩ := hrel
    have Hok := Lib.hid hok; clear hok
    by_cases hlt : k < xss.length
    · obtain ⟨b, o, rfl, hb, hc⟩ := hread (by omega)
      obtain ⟨r, hr, hrow⟩ := hc k hlt
      clear hread hc
      obtain ⟨xs, Hxs⟩ : ∃ xs, Hid (xss.getD k [] = xs) := ⟨_, rfl⟩
      rw [Hxs.out] at hrow
      have Hrow' := Lib.hid hrow
      obtain ⟨A', c', rfl, hnc', hcm', hread'⟩ := hrow
      go_wp2
      go_loop [15] (fun a => ∃ j : Nat, j ≤ xs.length ∧ a = .int .i64 j ∧ rowOk xss.length xs j) (fun a => xs.length - (intOf a).toNat)
      case atStart => exact ⟨0, Nat.zero_le _, rfl, (fun _ h => absurd h (by omega))⟩
      case round =>
        obtain ⟨j, hj, rfl, hrow⟩ := hrel
        have Hrow := Lib.hid hrow; clear hrow
        by_cases hltj : j < xs.length
        · obtain ⟨b', o', rfl, hb', hc'⟩ := hread' (by omega)
          have hx := hc' j (by omega)
          clear hread' hc'
          obtain ⟨x, Hx⟩ : ∃ x, Hid (xs.getD j 0 = x) := ⟨_, rfl⟩
          rw [Hx.out] at hx
          by_cases hin : 0 ≤ x ∧ x ≤ (xss.length : Int) - 1
          · have htk := Ints.take Hrow'.out hj
            by_cases hmem : x ∈ xs.take j
            · go_wp2_with (first | (go_at_call 72; refine (within_t _ _ _ _ hin).mono ?_; rintro e w' ⟨rfl, rfl⟩) | (go_at_call 85; refine (contains_any _ _ _ _ htk true (by simp [hmem])).mono ?_; rintro e w' ⟨rfl, rfl⟩))
              go_ret
              refine ⟨ret_bool ?_, rfl⟩
              cases hb : B
              · rfl
              · have hg := (HB.out.1 hb).1 k hlt
                rw [Hxs.out] at hg
                obtain ⟨i, hi, e⟩ := mem_getD.1 hmem
                have hi' : i < j := by simp at hi; omega
                have e' : xs.getD i 0 = x := by rw [← e]; simp [List.getD_eq_getElem?_getD, List.getElem?_take, hi']
                exact absurd (e'.trans Hx.out.symm) ((hg j hltj).2.2 i hi')
            · go_wp2_with (first | (go_at_call 72; refine (within_t _ _ _ _ hin).mono ?_; rintro e w' ⟨rfl, rfl⟩) | (go_at_call 85; refine (contains_any _ _ _ _ htk false (by simp [hmem])).mono ?_; rintro e w' ⟨rfl, rfl⟩))
              go_round
              case rel =>
                refine ⟨j + 1, by omega, by go_num, rowOk_step Hrow.out Hx.out hin.1 hin.2 (fun i hi e => hmem (mem_getD.2 ⟨i, by simp; omega, ?_⟩))⟩
                rw [← e]; simp [List.getD_eq_getElem?_getD, List.getElem?_take, hi]
              case measure => simp [intOf]; omega
          · go_wp2_with (go_at_call 72; refine (within_f _ _ _ _ hin).mono ?_; rintro e w' ⟨rfl, rfl⟩)
            go_ret
            refine ⟨ret_bool ?_, rfl⟩
            cases hb : B
            · rfl
            · have hg := (HB.out.1 hb).1 k hlt
              rw [Hxs.out] at hg
              have := hg j hltj
              rw [Hx.out] at this
              exact absurd ⟨this.1, this.2.1⟩ hin
        · have hj' : j = xs.length := by omega
          subst hj'
          go_wp2
          go_round
          case rel =>
            refine ⟨k + 1, by omega, by go_num, fun k' hk' => ?_⟩
            by_cases e : k' = k
            · subst e; rw [Hxs.out]; exact Hrow.out
            · exact Hok.out k' (by omega)
          case measure => simp [intOf]; omega
    · go_wp2
      go_ret
      refine ⟨ret_bool ?_, rfl⟩
      rw [Bool.eq_iff_iff, HB.out, decide_eq_true_iff]
      exact ⟨fun h => ⟨fun k' hk' => Hok.out k' (by omega), by omega⟩, fun h => by have := h.2; omega⟩

set_option maxHeartbeats 400000 in
theorem isNode_any (v : Value) (xss : List (List Int)) (x : Int) (w : World) (h : IntRows w v xss) (B : Bool) (hB : B = true ↔ (0 ≤ x ∧ x ≤ (xss.length : Int) - 1)) :
    Calls Try.prog 65 #[v, .int .i64 x] w fun e w' => e = .returned (.bool B) ∧ w = w' := by
  obtain ⟨A, c, rfl, hnc, hcm, hread⟩ := h
  have HB := Lib.hid hB; clear hB hread
  go_enter Try.func65, Try.ntmps65
  go_wp2_with (go_at_call 72; refine (within_any _ _ _ _ B HB.out).mono ?_; rintro e w' ⟨rfl, rfl⟩)
  go_ret
  exact ⟨rfl, rfl⟩

set_option maxHeartbeats 400000 in
theorem areNodes_any (v v' : Value) (xss : List (List Int)) (xs : List Int) (w : World) (h : IntRows w v xss) (h' : Ints w v' xs) (B : Bool) (hB : B = true ↔ (GValid xss ∧ ∀ x, x ∈ xs → 0 ≤ x ∧ x ≤ (xss.length : Int) - 1)) :
    Calls Try.prog 50 #[v, v'] w fun e w' => e = .returned (.bool B) ∧ w = w' := by
  obtain ⟨A, c, rfl, hnc, hcm, hread⟩ := h'
  have HB := Lib.hid hB; clear hB
  go_enter Try.func50, Try.ntmps50
  go_wp2
  go_loop [9] (fun i => ∃ k : Nat, k ≤ xs.length ∧ i = .int .i64 k ∧ ∀ j, j < k → 0 ≤ xs.getD j 0 ∧ xs.getD j 0 ≤ (xss.length : Int) - 1) (fun i => xs.length - (intOf i).toNat)
  case atStart => exact ⟨0, Nat.zero_le _, rfl, fun j hj => absurd hj (by omega)⟩
  case round =>
    obtain ⟨k, hk, rfl, hne⟩ := hrel
    have Hne := Lib.hid hne; clear hne
    by_cases hlt : k < xs.length
    · obtain ⟨b, o, rfl, hb, hc⟩ := hread (by omega)
      have hy := hc k (by omega)
      clear hread hc
      obtain ⟨y, Hy⟩ : ∃ y, Hid (xs.getD k 0 = y) := ⟨_, rfl⟩
      rw [Hy.out] at hy
      by_cases hin : 0 ≤ y ∧ y ≤ (xss.length : Int) - 1
      · go_wp2_with (go_at_call 65; refine (isNode_any _ _ _ _ h true (by simp [hin])).mono ?_; rintro e w' ⟨rfl, rfl⟩)
        go_round
        case rel =>
          refine ⟨k + 1, by omega, by go_num, fun j hj => ?_⟩
          by_cases e : j = k
          · subst e; rw [Hy.out]; exact hin
          · exact Hne.out j (by omega)
        case measure => simp [intOf]; omega
      · go_wp2_with (go_at_call 65; refine (isNode_any _ _ _ _ h false (by simp [hin])).mono ?_; rintro e w' ⟨rfl, rfl⟩)
        go_ret
        refine ⟨ret_bool ?_, rfl⟩
        cases hb : B
        · rfl
        · exact absurd ((HB.out.1 hb).2 y (mem_getD.2 ⟨k, hlt, Hy.out⟩)) hin
    · clear hread
      have hB2 : B = true ↔ GValid xss := by
        rw [HB.out]
        refine ⟨fun h => h.1, fun h => ⟨h, fun x hx => ?_⟩⟩
        obtain ⟨j, hj, e⟩ := mem_getD.1 hx
        rw [← e]
        exact Hne.out j (by omega)
      have HB2 := Lib.hid hB2; clear hB2
      go_wp2_with (go_at_call 64; refine (igv_any _ _ _ h B HB2.out).mono ?_; rintro e w' ⟨rfl, rfl⟩)
      go_ret
      exact ⟨rfl, rfl⟩

end Go.Proofs.Ytmhaaihgepldhaa
