/- Nearest post-dominators, as the reference and the program find them. No condition. -/
import Derived.Test.YtmhaaihgepldhaaPostD
namespace Go.Proofs.Ytmhaaihgepldhaa
open Go.RowKit

def Good (xss : List (List Int)) (a en b : Int) : Prop := InG xss b ∧ b ≠ a ∧ PD xss a b en ∧ ∀ c, InG xss c → c ≠ a → c ≠ b → PD xss a c en → PD xss b c en
def IsNP (xss : List (List Int)) (a en r : Int) : Prop := (r = -1 ∧ ∀ b, ¬ Good xss a en b) ∨ (Good xss a en r ∧ ∀ b, b < r → ¬ Good xss a en b)
theorem IsNP.unique {xss : List (List Int)} {a en r s : Int} (h : IsNP xss a en r) (k : IsNP xss a en s) : r = s := by
  rcases h with ⟨rfl, h⟩ | ⟨h1, h2⟩
  · rcases k with ⟨rfl, _⟩ | ⟨k1, _⟩
    · rfl
    · exact absurd k1 (h _)
  · rcases k with ⟨rfl, k⟩ | ⟨k1, k2⟩
    · exact absurd h1 (k _)
    · have := h2 s
      have := k2 r
      rcases Int.lt_trichotomy r s with e | e | e
      · exact absurd h1 (k2 _ e)
      · exact e
      · exact absurd k1 (h2 _ e)

def NPPost (xss : List (List Int)) (a en : Int) (w : World) (e : Ending) (w' : World) : Prop := ∃ r : Int, e = .returned (.int .i64 r) ∧ IsNP xss a en r ∧ Pure w w'

/-- What post-dominates another node has itself a way to the end. -/
theorem PD.self {xss : List (List Int)} {a b en : Int} (hG : GValid xss) (ha : 0 ≤ a) (h : PD xss a b en) (hne : b ≠ a) : PD xss b b en := by
  obtain ⟨h1, h2⟩ := h
  have h2 : ¬ RC xss b a en := by
    rcases h2 with h2 | h2
    · exact absurd h2.symm hne
    · exact h2
  refine ⟨?_, .inl rfl⟩
  -- along the way from a: either b has been met, and from there the node is reached, or it is reached without b
  have key : ∀ x, RC xss (-1) a x → RC xss b a x ∨ RC xss (-1) b x := by
    intro x hx
    induction hx with
    | refl => exact .inl (.refl _ (fun e => hne e.symm))
    | step y z hy hc hw ih =>
      rcases ih with ih | ih
      · by_cases e : z = b
        · subst e
          exact .inr (.refl _ (by have := (hG.mem hc).1; omega))
        · exact .inl (.step _ _ _ ih hc e)
      · exact .inr (.step _ _ _ ih hc hw)
  exact (key en h1).resolve_left h2

set_option maxHeartbeats 1000000 in
set_option maxRecDepth 100000 in
theorem snp_in (v : Value) (xss : List (List Int)) (a en : Int) (w : World) (h : IntRows w v xss) (hG : GValid xss) (ha : InG xss a) (he : InG xss en) :
    Calls Try.prog 14 #[v, .int .i64 a, .int .i64 en] w (NPPost xss a en w) := by
  have HG := Lib.hid hG; clear hG
  have H := Lib.hid h
  obtain ⟨A, cc, rfl, hx1, hx2, hx3⟩ := h
  clear hx3
  have hn64 := HG.out.2
  go_enter Try.func14, Try.ntmps14
  go_wp2_with fail
  refine (gv_any _ _ _ H.out true (by simp [HG.out])).mono ?_
  rintro e w' ⟨rfl, n0, rfl⟩
  go_wp2_with fail
  refine (l1In_t _ _ _ _ ha).mono ?_
  rintro e w' ⟨rfl, rfl⟩
  go_wp2_with fail
  refine (l1In_t _ _ _ _ he).mono ?_
  rintro e w' ⟨rfl, rfl⟩
  go_wp2_with fail
  go_loopg [7] xss.length (fun gk i wr => ∃ k : Nat, gk + k = xss.length ∧ i = .int .i64 k ∧ Pure w wr ∧ ∀ b : Int, b < k → ¬ Good xss a en b)
  case atStart => exact ⟨0, rfl, rfl, Pure.drewN (Pure.refl _) _, fun b hb hg => by have := hg.1.1; omega⟩
  case round =>
    obtain ⟨k, hgk, rfl, hp, hall⟩ := hrel
    have Hgk := Lib.hid hgk
    have Hall := Lib.hid hall
    have Ha := Lib.hid ha
    have He := Lib.hid he
    have hkn : k ≤ xss.length := by omega
    clear hgk hall
    by_cases hlt : k < xss.length
    · -- the inner loop's end, once for all ways in
      by_cases hka : (k : Int) = a
      · have hd : ((k : Int) != a) = false := by simp [hka]
        have Hka := Lib.hid hka; clear hka ha he
        go_wp2_with fail
        go_loopg [9, 8] 0 (fun gc c g wr => c = .int .i64 0 ∧ g = .bool false ∧ Pure w wr)
        case atStart => exact ⟨rfl, rfl, hp⟩
        case round =>
          clear hp
          obtain ⟨rfl, rfl, hp⟩ := hrel
          go_wp2
          go_roundg (xss.length - (k + 1))
          case measure => have := Hgk.out; omega
          case rel =>
            refine ⟨k + 1, by have := Hgk.out; omega, by go_num, hp, fun b hb hg => ?_⟩
            by_cases e : b = k
            · exact hg.2.1 (e.trans Hka.out)
            · exact Hall.out b (by omega) hg
      · have hd : ((k : Int) != a) = true := by simp [hka]
        have Hka := Lib.hid hka; clear hka ha he
        rcases Classical.em (PD xss a k en) with hpd | hpd
        · have Hpd := Lib.hid hpd; clear hpd
          go_wp2_with (go_at_call 25; go_must (refine (spd_in _ _ _ _ _ _ (H.out.keep hp) HG.out Ha.out ⟨by omega, by omega⟩ He.out true (by simp [Hpd.out])).mono ?_); rintro e w1 ⟨rfl, hp1⟩)
          have hp2 := hp.trans hp1
          go_loopg [9, 8] xss.length (fun gc c g wr => ∃ (c' : Nat) (g' : Bool), gc + c' = xss.length ∧ c = .int .i64 c' ∧ g = .bool g' ∧ Pure w wr ∧ (g' = true → ∀ d : Int, InG xss d → d < c' → d ≠ a → d ≠ k → PD xss a d en → PD xss k d en) ∧ (g' = false → ¬ Good xss a en k))
          case atStart => exact ⟨0, true, rfl, rfl, rfl, hp2, fun _ d hd hlt => absurd hd.1 (by omega), fun h => by cases h⟩
          case round =>
            clear hp hp2
            obtain ⟨c, g, hgc, rfl, rfl, hp, hT, hF⟩ := hrel
            have Hgc := Lib.hid hgc
            have HT := Lib.hid hT
            have HF := Lib.hid hF
            have hcn : c ≤ xss.length := by omega
            clear hgc hT hF
            cases g
            · go_wp2
              all_goals
                go_roundg (xss.length - (k + 1))
                case measure => have := Hgk.out; omega
                case rel =>
                  refine ⟨k + 1, by have := Hgk.out; omega, by go_num, hp, fun b hb hg => ?_⟩
                  by_cases e : b = k
                  · rw [e] at hg; exact HF.out (by trivial) hg
                  · exact Hall.out b (by omega) hg
            · by_cases hltc : c < xss.length
              · by_cases hca : (c : Int) = a
                · have hd : ((c : Int) == a) = true := by simp [hca]
                  have Hca := Lib.hid hca; clear hca
                  go_wp2
                  go_roundg (xss.length - (c + 1))
                  case measure => have := Hgc.out; omega
                  case rel =>
                    refine ⟨c + 1, true, by have := Hgc.out; omega, by go_num, rfl, hp, fun _ d hd1 hd2 hd3 hd4 hd5 => ?_, fun h => by cases h⟩
                    by_cases e : d = c
                    · exact absurd (e.trans Hca.out) hd3
                    · exact HT.out (by trivial) d hd1 (by omega) hd3 hd4 hd5
                · have hd : ((c : Int) == a) = false := by simp [hca]
                  have Hca := Lib.hid hca; clear hca
                  by_cases hck : (c : Int) = k
                  · have hd : ((c : Int) == k) = true := by simp [hck]
                    have Hck := Lib.hid hck; clear hck
                    go_wp2
                    go_roundg (xss.length - (c + 1))
                    case measure => have := Hgc.out; omega
                    case rel =>
                      refine ⟨c + 1, true, by have := Hgc.out; omega, by go_num, rfl, hp, fun _ d hd1 hd2 hd3 hd4 hd5 => ?_, fun h => by cases h⟩
                      by_cases e : d = c
                      · exact absurd (e.trans Hck.out) hd4
                      · exact HT.out (by trivial) d hd1 (by omega) hd3 hd4 hd5
                  · have hd : ((c : Int) == k) = false := by simp [hck]
                    have Hck := Lib.hid hck; clear hck
                    rcases Classical.em (PD xss a c en) with h1 | h1
                    · have H1 := Lib.hid h1; clear h1
                      rcases Classical.em (PD xss k c en) with h2 | h2
                      · have H2 := Lib.hid h2; clear h2
                        go_wp2_with fail
                        refine (spd_in _ _ _ _ _ _ (H.out.keep hp) HG.out Ha.out ⟨by omega, by omega⟩ He.out true (by simp [H1.out])).mono ?_
                        rintro e w2 ⟨rfl, hp2⟩
                        have hp3 := hp.trans hp2
                        go_wp2_with fail
                        refine (spd_in _ _ _ _ _ _ (H.out.keep hp3) HG.out ⟨by omega, by omega⟩ ⟨by omega, by omega⟩ He.out true (by simp [H2.out])).mono ?_
                        rintro e w3 ⟨rfl, hp4⟩
                        have hp5 := hp3.trans hp4
                        go_wp2
                        go_roundg (xss.length - (c + 1))
                        case measure => have := Hgc.out; omega
                        case rel =>
                          refine ⟨c + 1, true, by have := Hgc.out; omega, by go_num, rfl, hp5, fun _ d hd1 hd2 hd3 hd4 hd5 => ?_, fun h => by cases h⟩
                          by_cases e : d = c
                          · rw [e]; exact H2.out
                          · exact HT.out (by trivial) d hd1 (by omega) hd3 hd4 hd5
                      · have H2 := Lib.hid h2; clear h2
                        go_wp2_with fail
                        refine (spd_in _ _ _ _ _ _ (H.out.keep hp) HG.out Ha.out ⟨by omega, by omega⟩ He.out true (by simp [H1.out])).mono ?_
                        rintro e w2 ⟨rfl, hp2⟩
                        have hp3 := hp.trans hp2
                        go_wp2_with fail
                        refine (spd_in _ _ _ _ _ _ (H.out.keep hp3) HG.out ⟨by omega, by omega⟩ ⟨by omega, by omega⟩ He.out false (by simp [H2.out])).mono ?_
                        rintro e w3 ⟨rfl, hp4⟩
                        have hp5 := hp3.trans hp4
                        go_wp2
                        go_roundg (xss.length - (c + 1))
                        case measure => have := Hgc.out; omega
                        case rel =>
                          exact ⟨c + 1, false, by have := Hgc.out; omega, by go_num, rfl, hp5, (fun h => by cases h), fun _ hg => H2.out (hg.2.2.2 c ⟨by omega, by omega⟩ Hca.out Hck.out H1.out)⟩
                    · have H1 := Lib.hid h1; clear h1
                      go_wp2_with fail
                      refine (spd_in _ _ _ _ _ _ (H.out.keep hp) HG.out Ha.out ⟨by omega, by omega⟩ He.out false (by simp [H1.out])).mono ?_
                      rintro e w2 ⟨rfl, hp2⟩
                      have hp3 := hp.trans hp2
                      go_wp2
                      go_roundg (xss.length - (c + 1))
                      case measure => have := Hgc.out; omega
                      case rel =>
                        refine ⟨c + 1, true, by have := Hgc.out; omega, by go_num, rfl, hp3, fun _ d hd1 hd2 hd3 hd4 hd5 => ?_, fun h => by cases h⟩
                        by_cases e : d = c
                        · rw [e] at hd5; exact absurd hd5 H1.out
                        · exact HT.out (by trivial) d hd1 (by omega) hd3 hd4 hd5
              · go_wp2
                go_ret
                exact ⟨_, rfl, .inr ⟨⟨⟨by omega, by omega⟩, Hka.out, Hpd.out, fun d hd1 hd3 hd4 hd5 => HT.out (by trivial) d hd1 (by have := hd1.2; omega) hd3 hd4 hd5⟩, Hall.out⟩, hp⟩
        · have Hpd := Lib.hid hpd; clear hpd
          go_wp2_with (go_at_call 25; go_must (refine (spd_in _ _ _ _ _ _ (H.out.keep hp) HG.out Ha.out ⟨by omega, by omega⟩ He.out false (by simp [Hpd.out])).mono ?_); rintro e w1 ⟨rfl, hp1⟩)
          have hp2 := hp.trans hp1
          go_loopg [9, 8] 0 (fun gc c g wr => c = .int .i64 0 ∧ g = .bool false ∧ Pure w wr)
          case atStart => exact ⟨rfl, rfl, hp2⟩
          case round =>
            clear hp hp2
            obtain ⟨rfl, rfl, hp⟩ := hrel
            go_wp2
            go_roundg (xss.length - (k + 1))
            case measure => have := Hgk.out; omega
            case rel =>
              refine ⟨k + 1, by have := Hgk.out; omega, by go_num, hp, fun b hb hg => ?_⟩
              by_cases e : b = k
              · rw [e] at hg; exact Hpd.out hg.2.2.1
              · exact Hall.out b (by omega) hg
    · go_wp2
      go_ret
      exact ⟨_, rfl, .inl ⟨rfl, fun b hg => Hall.out b (by have := hg.1.2; omega) hg⟩, hp⟩

end Go.Proofs.Ytmhaaihgepldhaa
