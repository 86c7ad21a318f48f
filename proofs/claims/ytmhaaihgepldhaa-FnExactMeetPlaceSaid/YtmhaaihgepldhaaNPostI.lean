/- Nearest post-dominators, as the program finds them. No condition. -/
import Derived.Test.YtmhaaihgepldhaaNPost
namespace Go.Proofs.Ytmhaaihgepldhaa
open Go.RowKit

theorem mem_of_getD {ps : List Int} {i : Nat} (h : i < ps.length) : ps.getD i 0 ∈ ps := by simp [List.getD_eq_getElem?_getD, h]

set_option maxHeartbeats 1000000 in
set_option maxRecDepth 100000 in
theorem inp_in (v : Value) (xss : List (List Int)) (a en : Int) (w : World) (h : IntRows w v xss) (hG : GValid xss) (ha : InG xss a) (he : InG xss en) :
    Calls Try.prog 51 #[v, .int .i64 a, .int .i64 en] w (NPPost xss a en w) := by
  have HG := Lib.hid hG; clear hG
  have H := Lib.hid h
  obtain ⟨A, cc, rfl, hx1, hx2, hx3⟩ := h
  clear hx3
  have hn64 := HG.out.2
  have Ha := Lib.hid ha
  have He := Lib.hid he
  clear ha he
  go_enter Try.func51, Try.ntmps51
  go_wp2_with fail
  go_loopg [16, 7] xss.length (fun gk i q wr => ∃ (k : Nat) (ps : List Int), gk + k = xss.length ∧ i = .int .i64 k ∧ Pure w wr ∧ OwnO wr w.heap.size 3 1 q ps.length (ps.map (.int .i64)) ∧ ps.length ≤ k ∧ ps.Pairwise (· < ·) ∧ ∀ x : Int, x ∈ ps ↔ 0 ≤ x ∧ x < k ∧ x ≠ a ∧ PD xss a x en)
  case atStart => exact ⟨0, [], rfl, rfl, Pure.refl _, OwnO.of_own (World.ownsRow_nil _ _ _ _), Nat.le_refl _, .nil, fun x => by simp; omega⟩
  case round =>
    obtain ⟨k, ps, hgk, rfl, hp, hown, hpl, hsrt, hps⟩ := hrel
    have Hgk := Lib.hid hgk
    have Hown := Lib.hid hown
    have Hsrt := Lib.hid hsrt
    have Hps := Lib.hid hps
    have hkn : k ≤ xss.length := by omega
    clear hgk hown hsrt hps
    obtain ⟨Aq, cq, rfl⟩ := Hown.out.form
    by_cases hlt : k < xss.length
    · by_cases hka : (k : Int) = a
      · have hd : ((k : Int) != a) = false := by simp [hka]
        have Hka := Lib.hid hka; clear hka
        go_wp2
        go_roundg (xss.length - (k + 1))
        case measure => have := Hgk.out; omega
        case rel =>
          refine ⟨k + 1, ps, by have := Hgk.out; omega, by go_num, hp, Hown.out, by omega, Hsrt.out, fun x => ?_⟩
          rw [Hps.out x]
          constructor
          · rintro ⟨h1, h2, h3⟩; exact ⟨h1, by omega, h3⟩
          · rintro ⟨h1, h2, h3, h4⟩; exact ⟨h1, by have := Hka.out; omega, h3, h4⟩
      · have hd : ((k : Int) != a) = true := by simp [hka]
        have Hka := Lib.hid hka; clear hka
        rcases Classical.em (PD xss a k en) with hpd | hpd
        · have Hpd := Lib.hid hpd; clear hpd
          go_wp2_with fail
          refine (ipd_any _ _ _ _ _ _ (H.out.keep hp) HG.out Ha.out He.out true (by simp [Hpd.out])).mono ?_
          rintro e w1 ⟨rfl, hp1⟩
          have hp2 := hp.trans hp1
          have HO := Lib.hid (Hown.out.pure hp1)
          go_wp2_with (at_builtin; go_must (refine wl_append1 elInt rfl _ _ rfl w.heap.size (.slice Aq ps.length cq) ps.length (ps.map (.int .i64)) rfl HO.out w1.heap.size 1 [.int .i64 (k : Int)] rfl rfl rfl rfl (by decide) (by omega) hp2.size ?_); intro v' w' hO' hg')
          have hP' := hp2.grown hg' (fun k hk => (HO.out.lt k hk).1)
          have HO' := Lib.hid hO'
          clear hO'
          go_wp2
          go_roundg (xss.length - (k + 1))
          case measure => have := Hgk.out; omega
          case rel =>
            refine ⟨k + 1, ps ++ [(k : Int)], by have := Hgk.out; omega, by go_num, hP', by simpa using HO'.out, by simp; omega, ?_, fun x => ?_⟩
            · rw [List.pairwise_append]
              refine ⟨Hsrt.out, by simp, fun x hx y hy => ?_⟩
              simp at hy
              have := ((Hps.out x).1 hx).2.1
              omega
            · rw [List.mem_append, Hps.out x]
              simp only [List.mem_singleton]
              constructor
              · rintro (⟨h1, h2, h3⟩ | rfl)
                · exact ⟨h1, by omega, h3⟩
                · exact ⟨by omega, by omega, Hka.out, Hpd.out⟩
              · rintro ⟨h1, h2, h3, h4⟩
                by_cases e : x = k
                · exact .inr e
                · exact .inl ⟨h1, by omega, h3, h4⟩
        · have Hpd := Lib.hid hpd; clear hpd
          go_wp2_with (go_at_call 61; go_must (refine (ipd_any _ _ _ _ _ _ (H.out.keep hp) HG.out Ha.out He.out false (by simp [Hpd.out])).mono ?_); rintro e w1 ⟨rfl, hp1⟩)
          have hp2 := hp.trans hp1
          go_roundg (xss.length - (k + 1))
          case measure => have := Hgk.out; omega
          case rel =>
            refine ⟨k + 1, ps, by have := Hgk.out; omega, by go_num, hp2, Hown.out.pure hp1, by omega, Hsrt.out, fun x => ?_⟩
            rw [Hps.out x]
            constructor
            · rintro ⟨h1, h2, h3⟩; exact ⟨h1, by omega, h3⟩
            · rintro ⟨h1, h2, h3, h4⟩
              refine ⟨h1, ?_, h3, h4⟩
              by_cases e : x = k
              · rw [e] at h4; exact absurd h4 Hpd.out
              · omega
    · -- all posts are known
      have hps' : ∀ x : Int, x ∈ ps ↔ InG xss x ∧ x ≠ a ∧ PD xss a x en := fun x => by
        rw [Hps.out x]
        constructor
        · rintro ⟨h1, h2, h3⟩; exact ⟨⟨h1, by omega⟩, h3⟩
        · rintro ⟨h1, h3⟩; exact ⟨h1.1, by have := h1.2; omega, h3⟩
      have HP := Lib.hid hps'
      clear hps' Hps
      have hgood : ∀ b : Int, Good xss a en b ↔ b ∈ ps ∧ ∀ c, c ∈ ps → PD xss b c en := fun b => by
        constructor
        · rintro ⟨h1, h2, h3, h4⟩
          refine ⟨(HP.out b).2 ⟨h1, h2, h3⟩, fun c hc => ?_⟩
          obtain ⟨c1, c2, c3⟩ := (HP.out c).1 hc
          by_cases e : c = b
          · rw [e]; exact PD.self HG.out Ha.out.1 h3 h2
          · exact h4 c c1 c2 e c3
        · rintro ⟨h1, h2⟩
          obtain ⟨b1, b2, b3⟩ := (HP.out b).1 h1
          exact ⟨b1, b2, b3, fun c c1 c2 _ c4 => h2 c ((HP.out c).2 ⟨c1, c2, c4⟩)⟩
      have HGd := Lib.hid hgood
      clear hgood
      have hread := Hown.out
      go_wp2_with fail
      go_loopg [36] ps.length (fun gk i wr => ∃ k : Nat, gk + k = ps.length ∧ i = .int .i64 k ∧ Pure w wr ∧ OwnO wr w.heap.size 3 1 (.slice Aq ps.length cq) ps.length (ps.map (.int .i64)) ∧ ∀ j, j < k → ¬ Good xss a en (ps.getD j 0))
      case atStart => exact ⟨0, rfl, rfl, hp, Hown.out, fun j hj => absurd hj (by omega)⟩
      case round =>
        clear hp hread Hown
        obtain ⟨i, hgi, rfl, hp, hown, hall⟩ := hrel
        have Hgi := Lib.hid hgi
        have Hown := Lib.hid hown
        have Hall := Lib.hid hall
        clear hgi hown hall
        by_cases hlti : i < ps.length
        · obtain ⟨g, off, c2, hq, hq1, hq2, hq3, hq4⟩ := Hown.out.formSome (by omega)
          injection hq with hq5 hq6 hq7
          subst hq5 hq7
          have hcell := Hown.out.cell i (by omega)
          rw [show (ps.map (Value.int .i64))[i]? = some (.int .i64 (ps.getD i 0)) by simp [List.getD_eq_getElem?_getD, hlti]] at hcell
          have hbm := mem_of_getD hlti
          obtain ⟨b, Hb⟩ : ∃ b, Hid (ps.getD i 0 = b) := ⟨_, rfl⟩
          rw [Hb.out] at hcell hbm
          have Hbm := Lib.hid hbm; clear hbm
          have Hbi := Lib.hid ((HP.out b).1 Hbm.out)
          go_wp2_with fail
          go_loopg [42, 11] ps.length (fun gj j nr wr => ∃ (j' : Nat) (n' : Bool), gj + j' = ps.length ∧ j = .int .i64 j' ∧ nr = .bool n' ∧ Pure w wr ∧ OwnO wr w.heap.size 3 1 (.slice (some ⟨g, off, none⟩) ps.length cq) ps.length (ps.map (.int .i64)) ∧ (n' = true ↔ ∀ l, l < j' → PD xss b (ps.getD l 0) en))
          case atStart => exact ⟨0, true, rfl, rfl, rfl, hp, Hown.out, by simp⟩
          case round =>
            clear hp Hown hcell
            obtain ⟨j, n, hgj, rfl, rfl, hp, hown, hn⟩ := hrel
            have Hgj := Lib.hid hgj
            have Hown := Lib.hid hown
            have Hn := Lib.hid hn
            clear hgj hown hn
            by_cases hltj : j < ps.length
            · have hcell := Hown.out.cell j (by omega)
              rw [show (ps.map (Value.int .i64))[j]? = some (.int .i64 (ps.getD j 0)) by simp [List.getD_eq_getElem?_getD, hltj]] at hcell
              have hbm := mem_of_getD hltj
              obtain ⟨o, Ho⟩ : ∃ o, Hid (ps.getD j 0 = o) := ⟨_, rfl⟩
              rw [Ho.out] at hcell hbm
              cases n
              · go_wp2
                go_roundg (ps.length - (j + 1))
                case measure => have := Hgj.out; omega
                case rel =>
                  refine ⟨j + 1, false, by have := Hgj.out; omega, by go_num, rfl, hp, Hown.out, ?_⟩
                  have := Hn.out
                  simp only [Bool.false_eq_true, false_iff] at this ⊢
                  exact fun h => this fun l hl => h l (by omega)
              · rcases Classical.em (PD xss b o en) with h1 | h1
                all_goals
                  have H1 := Lib.hid h1; clear h1
                · go_wp2_with (go_at_call 61; go_must (refine (ipd_any _ _ _ _ _ _ (H.out.keep hp) HG.out Hbi.out.1 He.out true (by simp [H1.out])).mono ?_); rintro e w1 ⟨rfl, hp1⟩)
                  have hp2 := hp.trans hp1
                  go_roundg (ps.length - (j + 1))
                  case measure => have := Hgj.out; omega
                  case rel =>
                    refine ⟨j + 1, true, by have := Hgj.out; omega, by go_num, rfl, hp2, Hown.out.pure hp1, ?_⟩
                    have := Hn.out
                    simp only [true_iff] at this ⊢
                    intro l hl
                    by_cases e : l = j
                    · rw [e, Ho.out]; exact H1.out
                    · exact this l (by omega)
                · go_wp2_with (go_at_call 61; go_must (refine (ipd_any _ _ _ _ _ _ (H.out.keep hp) HG.out Hbi.out.1 He.out false (by simp [H1.out])).mono ?_); rintro e w1 ⟨rfl, hp1⟩)
                  have hp2 := hp.trans hp1
                  go_roundg (ps.length - (j + 1))
                  case measure => have := Hgj.out; omega
                  case rel =>
                    refine ⟨j + 1, false, by have := Hgj.out; omega, by go_num, rfl, hp2, Hown.out.pure hp1, ?_⟩
                    simp only [Bool.false_eq_true, false_iff]
                    intro h
                    have := h j (by omega)
                    rw [Ho.out] at this
                    exact H1.out this
            · cases n
              · go_wp2
                go_roundg (ps.length - (i + 1))
                case measure => have := Hgi.out; omega
                case rel =>
                  refine ⟨i + 1, by have := Hgi.out; omega, by go_num, hp, Hown.out, fun l hl => ?_⟩
                  by_cases e : l = i
                  · rw [e, Hb.out, HGd.out]
                    rintro ⟨_, h⟩
                    have := Hn.out
                    simp only [Bool.false_eq_true, false_iff] at this
                    exact this fun l hl => h _ (mem_of_getD (by have := Hgj.out; omega))
                  · exact Hall.out l (by omega)
              · go_wp2
                go_ret
                refine ⟨b, rfl, .inr ⟨(HGd.out b).2 ⟨Hbm.out, fun c hc => ?_⟩, fun c hc hg => ?_⟩, hp⟩
                · obtain ⟨l, hl, e⟩ := mem_getD.1 hc
                  have := Hn.out
                  simp only [true_iff] at this
                  rw [← e]; exact this l (by omega)
                · obtain ⟨l, hl, e⟩ := mem_getD.1 ((HGd.out c).1 hg).1
                  by_cases hli : l < i
                  · exact Hall.out l hli (by rw [e]; exact hg)
                  · have hle : ps.getD i 0 ≤ ps.getD l 0 := by
                      by_cases e : i = l
                      · rw [e]; omega
                      · have := List.pairwise_iff_getElem.1 Hsrt.out i l hlti hl (by omega)
                        simp only [List.getD_eq_getElem?_getD, List.getElem?_eq_getElem hlti, List.getElem?_eq_getElem hl, Option.getD_some]
                        omega
                    rw [Hb.out, e] at hle
                    omega
        · go_wp2
          go_ret
          refine ⟨_, rfl, .inl ⟨rfl, fun b hg => ?_⟩, hp⟩
          obtain ⟨l, hl, e⟩ := mem_getD.1 ((HGd.out b).1 hg).1
          exact Hall.out l (by omega) (by rw [e]; exact hg)

end Go.Proofs.Ytmhaaihgepldhaa
