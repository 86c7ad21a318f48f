/- Which crowds are valid, as the reference finds it. One lane alone, plainly: its next instruction; where it is, told by a tree and what is around it; that its way ends. No program in sight. Lanes that run by themselves on one memory, plainly: steps, barriers, the lanes at the least place. No program in sight. The registers of one lane and the memory, in blocks of one's own. No condition. -/
import Derived.Test.YtajaonejpggcbaaQad
import Derived.Test.YtajaonejpggcbaaQah

namespace Go.Proofs.Ytajaonejpggcbaa
open Go.RowKit

structure CrowdOk (cs : List Cd) (c : Cx) : Prop where
  l : ∀ k, k < c.ls.length → LaneOk cs (c.ls.getD k default)
  p : PValid cs
  n1 : 1 ≤ c.ls.length
  n8 : c.ls.length ≤ 8
  m : MemOk c.mem
theorem lnB (cs : List Cd) (l : Lx) : ∃ B : Bool, B = true ↔ LaneOk cs l := by classical exact ⟨decide (LaneOk cs l), by simp⟩

set_option maxHeartbeats 2000000 in
set_option maxRecDepth 100000 in
theorem scv2_any (vl vm v : Value) (c : Cx) (cs : List Cd) (w : World) (hl : Lanes w vl c.ls) (hm : Ints w vm c.mem) (h : Codes w v cs) (hs : cs.length ≤ 1048576) (hs1 : c.ls.length ≤ 1048576) (hs2 : c.mem.length ≤ 1048576) (B : Bool) (hB : B = true ↔ CrowdOk cs c) :
    Calls Try.prog 50 #[.agg #[vl, vm], v] w fun e w' => e = .returned (.bool B) ∧ Pure w w' := by
  have HB := Lib.hid hB
  have H := Lib.hid h
  have HL := Lib.hid hl
  have HM := Lib.hid hm
  obtain ⟨A, cc, rfl, hnc, hcm⟩ := h.form
  obtain ⟨Al, cl, rfl, _⟩ := hl.form
  obtain ⟨Am, cm, rfl⟩ := hm.form
  clear h hl hm hB
  obtain ⟨wz, Hwz⟩ : ∃ wz, Hid (w.alloc (.cells #[.slice Al c.ls.length cl, .slice Am c.mem.length cm] 33) = wz) := ⟨_, Lib.hid rfl⟩
  have HPZ : Hid (Pure w wz) := Lib.hid (by rw [← Hwz.out]; exact (by repeat (first | assumption | exact Pure.refl _ | refine Pure.drewN ?_ _ | refine Pure.drew ?_ | refine Pure.alloc ?_ _ | refine Pure.setCell ?_ (by simp <;> omega) _)))
  have HZ : Hid (wz.heap[w.heap.size]? = some (.cells #[.slice Al c.ls.length cl, .slice Am c.mem.length cm] 33 (0, 0))) := Lib.hid (by rw [← Hwz.out]; exact heap_alloc_new w _)
  obtain ⟨bp, hbp⟩ := runB cs
  have HBP := Lib.hid hbp
  obtain ⟨bm, hbm⟩ : ∃ b : Bool, b = true ↔ MemOk c.mem := by classical exact ⟨decide (MemOk c.mem), by simp⟩
  have HBM := Lib.hid hbm
  obtain ⟨bn, hbn⟩ : ∃ b : Bool, b = true ↔ (1 ≤ (c.ls.length : Int) ∧ (c.ls.length : Int) ≤ 8) := ⟨decide (1 ≤ (c.ls.length : Int) ∧ (c.ls.length : Int) ≤ 8), by simp⟩
  have HBN := Lib.hid hbn
  clear hbp hbm hbn
  go_enter Try.func50, Try.ntmps50
  go_wp2_with fail
  rw [Hwz.out]
  go_loopg [5] c.ls.length (fun gk i wr => ∃ j : Nat, gk + j = c.ls.length ∧ i = .int .i64 j ∧ Pure wz wr ∧ ∀ k, k < j → LaneOk cs (c.ls.getD k default))
  case atStart => exact ⟨0, rfl, rfl, Pure.refl _, fun x hx => absurd hx (by omega)⟩
  case round =>
    obtain ⟨j, hgk, rfl, hp, hok⟩ := hrel
    have Hgk := Lib.hid hgk
    have HP := Lib.hid hp
    have HOK := Lib.hid hok
    have hjn : j ≤ c.ls.length := by omega
    have HPW := Lib.hid (HPZ.out.trans hp)
    obtain ⟨k0, _⟩ := row_pure hp HZ.out 0
    obtain ⟨k1, _⟩ := row_pure hp HZ.out 1
    simp only [List.getElem?_toArray, List.getElem?_cons_zero, List.getElem?_cons_succ] at k0 k1
    clear hgk hp hok
    by_cases hj : j < c.ls.length
    · obtain ⟨b, o, rfl, hb, R, T, hx⟩ := (HL.out.keep HPW.out).at_ hj
      obtain ⟨x, Hx⟩ : ∃ x, Hid (c.ls.getD j default = x) := ⟨_, Lib.hid rfl⟩
      rw [Hx.out] at hx
      have HX := Lib.hid hx
      obtain ⟨c0, c1, c2, c3, hr, ht⟩ := hx
      obtain ⟨bl, hbl⟩ := lnB cs x
      have HBL := Lib.hid hbl
      clear hr ht hbl
      go_wp2_with fail
      refine (slv_any R T _ x cs _ HX.out.r HX.out.t (H.out.keep HPW.out) hs bl HBL.out).mono ?_
      rintro e w2 ⟨rfl, hp2⟩
      cases bl
      · have HBF := Lib.hid (b_no HB.out (fun q => by have h1 := q.l j hj; rw [Hx.out] at h1; have := HBL.out.2 h1; cases this))
        go_wp2
        go_ret
        exact ⟨by rw [HBF.out]; rfl, HPW.out.trans hp2⟩
      · go_wp2
        go_roundg (c.ls.length - (j + 1))
        case measure => have := Hgk.out; omega
        case rel => exact ⟨j + 1, by have := Hgk.out; omega, by go_num, HP.out.trans hp2, fun k hk => by
          by_cases e : k = j
          · subst e; rw [Hx.out]; exact HBL.out.1 (by trivial)
          · exact HOK.out k (by omega)⟩
    · have hjn' : j = c.ls.length := by omega
      have HALL : Hid (PValid cs → 1 ≤ c.ls.length → c.ls.length ≤ 8 → MemOk c.mem → B = true) := Lib.hid (fun h1 h2 h3 h4 => HB.out.2 ⟨fun k hk => HOK.out k (by omega), h1, h2, h3, h4⟩)
      subst hjn'
      go_wp2_with fail
      refine (spv_any _ cs _ (H.out.keep HPW.out) hs bp HBP.out).mono ?_
      rintro e w2 ⟨rfl, hp2⟩
      have HP2 := Lib.hid (HPW.out.trans hp2)
      obtain ⟨m0, _⟩ := row_pure (HP.out.trans hp2) HZ.out 0
      obtain ⟨m1, _⟩ := row_pure (HP.out.trans hp2) HZ.out 1
      simp only [List.getElem?_toArray, List.getElem?_cons_zero, List.getElem?_cons_succ] at m0 m1
      have HZ2 := Lib.hid ((Chg.of_pure (S := fun _ => False) (HP.out.trans hp2)).heap HZ.out id)
      clear hp2 k0 k1
      cases bp
      · have HBF := Lib.hid (b_no HB.out (fun q => by have := HBP.out.2 q.p; cases this))
        go_wp2
        go_ret
        exact ⟨by rw [HBF.out]; rfl, HP2.out⟩
      · go_wp2_with fail
        refine (l1In_any _ _ _ _ bn HBN.out).mono ?_
        rintro e w3 ⟨rfl, rfl⟩
        cases bn
        · have HBF := Lib.hid (b_no HB.out (fun q => by have := HBN.out.2 ⟨by have := q.n1; omega, by have := q.n8; omega⟩; cases this))
          go_wp2
          go_ret
          exact ⟨by rw [HBF.out]; rfl, HP2.out⟩
        · go_wp2_with fail
          refine (smem_any _ c.mem _ (HM.out.keep HP2.out) (by omega) bm HBM.out).mono ?_
          rintro e w4 ⟨rfl, hp4⟩
          cases bm
          · have HBF := Lib.hid (b_no HB.out (fun q => by have := HBM.out.2 q.m; cases this))
            go_wp2
            go_ret
            exact ⟨by rw [HBF.out]; rfl, HP2.out.trans hp4⟩
          · have HBT : Hid (B = true) := Lib.hid (by have h1 := HBN.out.1 (by trivial); exact HALL.out (HBP.out.1 (by trivial)) (by omega) (by omega) (HBM.out.1 (by trivial)))
            go_wp2
            go_ret
            exact ⟨by rw [HBT.out]; rfl, HP2.out.trans hp4⟩

end Go.Proofs.Ytajaonejpggcbaa

namespace Go.Proofs.Ytajaonejpggcbaa

/-- A lane: its registers, its place, the further turns of the loops around it (the outermost first), whether it waits. -/
structure Ln where
  R : Nat → Int
  at_ : Nat
  T : List Int
  W : Bool
def ln0 : Ln := ⟨fun _ => 0, 0, [], false⟩
def goesL (n : Nat) (l : Ln) : Bool := !l.W && decide (l.at_ < n)
/-- The place behind a block, for those that do not enter it. -/
def outAt (cs : List Cd) (p : Nat) : Nat := if 0 ≤ (endAt cs p).2 then ((endAt cs p).2 + 1).toNat else ((endAt cs p).1 + 1).toNat
/-- The next instruction of a lane that can go on. -/
def lnStep (cs : List Cd) (m id : Nat) (l : Ln) (M : Nat → Int) : Ln :=
  let c := cs.getD l.at_ default
  if c.op = 10 then { l with at_ := l.at_ + 1, W := true }
  else if c.op = 11 then (if l.R c.a.toNat = 0 then { l with at_ := outAt cs l.at_ } else { l with at_ := l.at_ + 1 })
  else if c.op = 12 then { l with at_ := ((endAt cs (aroundAt cs l.at_).toNat).1 + 1).toNat }
  else if c.op = 13 then (if l.R c.a.toNat = 0 then { l with at_ := ((endAt cs l.at_).1 + 1).toNat } else { l with at_ := l.at_ + 1, T := l.T ++ [c.b - 1] })
  else if c.op = 14 then
    (let f := (aroundAt cs l.at_).toNat
     if (cs.getD f default).op = 13 then
       (if 0 < l.T.getD (l.T.length - 1) 0 ∧ l.R (cs.getD f default).a.toNat ≠ 0 then { l with at_ := f + 1, T := l.T.set (l.T.length - 1) (l.T.getD (l.T.length - 1) 0 - 1) }
        else { l with at_ := l.at_ + 1, T := l.T.take (l.T.length - 1) })
     else { l with at_ := l.at_ + 1 })
  else { l with R := simR c id m l.R M, at_ := l.at_ + 1 }
def lnMem (cs : List Cd) (m : Nat) (l : Ln) (M : Nat → Int) : Nat → Int := simM (cs.getD l.at_ default) m l.R M
theorem lnMem_ne {cs : List Cd} {m : Nat} {l : Ln} {M : Nat → Int} (h : (cs.getD l.at_ default).op ≠ 9) : lnMem cs m l M = M := if_neg h
def lnAcc (cs : List Cd) (m id ph : Nat) (l : Ln) : List Ac :=
  let c := cs.getD l.at_ default
  if c.op = 8 ∨ c.op = 9 then [⟨id, cellOf c m l.R, decide (c.op = 9), ph⟩] else []

/-- What is around a part of a program, from the inside: blocks whose opening lies at place p, and what follows behind them. -/
inductive Fr where
  | fi (p : Nat) (k : Tr)
  | fe (p : Nat) (e k : Tr)
  | lo (p : Nat) (a b r : Int) (t k : Tr)
def Ctx (cs : List Cd) : Nat → List Fr → Prop
  | j, [] => j = cs.length
  | j, .fi p k :: F => cs.getD j default = cEnd ∧ j < cs.length ∧ aroundAt cs j = p ∧ (cs.getD p default).op = 11 ∧ Seg cs (j + 1) k ∧ k.Ok ∧ Ctx cs (j + 1 + k.len) F
  | j, .fe p e k :: F => cs.getD j default = cElse ∧ j < cs.length ∧ aroundAt cs j = p ∧ (endAt cs p).1 = ((j + 1 + e.len : Nat) : Int) ∧ Seg cs (j + 1 + e.len + 1) k ∧ k.Ok ∧ Ctx cs (j + 1 + e.len + 1 + k.len) F
  | j, .lo p a b r t k :: F => cs.getD j default = cEnd ∧ j < cs.length ∧ aroundAt cs j = p ∧ cs.getD p default = cLoop a b ∧ 0 ≤ r ∧ r < b ∧ b ≤ 4 ∧ Seg cs (p + 1) t ∧ t.Ok ∧ j = p + 1 + t.len ∧ Seg cs (j + 1) k ∧ k.Ok ∧ Ctx cs (j + 1 + k.len) F
def frT : List Fr → List Int
  | [] => []
  | .fi _ _ :: F => frT F
  | .fe _ _ _ :: F => frT F
  | .lo _ _ _ r _ _ :: F => frT F ++ [r]
/-- A lane is at the beginning of a tree. -/
structure At (cs : List Cd) (l : Ln) (u : Tr) (F : List Fr) : Prop where
  seg : Seg cs l.at_ u
  ok : u.Ok
  ctx : Ctx cs (l.at_ + u.len) F
  t : l.T = frT F

/-- The longest way through a tree. -/
def Tr.way : Tr → Nat
  | .nil => 0
  | .op _ k => k.way + 1
  | .ite _ t k => t.way + 1 + 1 + k.way
  | .itee _ t e k => t.way + 1 + e.way + 1 + k.way
  | .loop _ b t k => b.toNat * (t.way + 1) + 1 + k.way
def wayF : List Fr → Nat
  | [] => 0
  | .fi _ k :: F => 1 + k.way + wayF F
  | .fe _ _ k :: F => 1 + k.way + wayF F
  | .lo _ _ _ r t k :: F => r.toNat * (t.way + 1) + 1 + k.way + wayF F

theorem getLast_frT {F : List Fr} {r : Int} : (frT F ++ [r]).getD ((frT F ++ [r]).length - 1) 0 = r := by
  simp [List.getD_eq_getElem?_getD]
theorem take_frT {F : List Fr} {r : Int} : (frT F ++ [r]).take ((frT F ++ [r]).length - 1) = frT F := by simp
theorem set_frT {F : List Fr} {r s : Int} : (frT F ++ [r]).set ((frT F ++ [r]).length - 1) s = frT F ++ [s] := by simp

section
variable {cs : List Cd} {l : Ln} {F : List Fr} {m id : Nat} {M : Nat → Int}
theorem plain_nop {c : Cd} (h : Plain c) : c.op ≠ 11 ∧ c.op ≠ 12 ∧ c.op ≠ 13 ∧ c.op ≠ 14 := h.2
/-- At the end of everything. -/
theorem At.done (h : At cs l .nil []) : l.at_ = cs.length := by
  have := h.ctx
  simpa [Ctx, Tr.len, Tr.flat] using this
theorem At.step_op {c : Cd} {k : Tr} (h : At cs l (.op c k) F) : lnStep cs m id l M = { l with R := simR c id m l.R M, at_ := l.at_ + 1, W := if c.op = 10 then true else l.W } ∧ At cs (lnStep cs m id l M) k F := by
  obtain ⟨s1, s2, s3⟩ := h.seg.op
  obtain ⟨hp, hk⟩ := h.ok
  obtain ⟨p1, p2, p3, p4⟩ := plain_nop hp
  have hc := h.ctx
  have e : lnStep cs m id l M = { l with R := simR c id m l.R M, at_ := l.at_ + 1, W := if c.op = 10 then true else l.W } := by
    unfold lnStep
    simp only [s1]
    by_cases h10 : c.op = 10
    · rw [if_pos h10, if_pos h10]
      have : simR c id m l.R M = l.R := by unfold simR; simp [h10]
      rw [this]
    · rw [if_neg h10, if_neg p1, if_neg p2, if_neg p3, if_neg p4, if_neg h10]
  refine ⟨e, ?_⟩
  rw [e]
  refine ⟨s3, hk, ?_, h.t⟩
  show Ctx cs (l.at_ + 1 + k.len) F
  rw [Tr.len_op] at hc
  rwa [show l.at_ + 1 + k.len = l.at_ + (k.len + 1) by omega]
theorem At.step_ite {a : Int} {t k : Tr} (h : At cs l (.ite a t k) F) :
    lnStep cs m id l M = (if l.R a.toNat = 0 then { l with at_ := l.at_ + 1 + t.len + 1 } else { l with at_ := l.at_ + 1 }) ∧
    (if l.R a.toNat = 0 then At cs (lnStep cs m id l M) k F else At cs (lnStep cs m id l M) t (.fi l.at_ k :: F)) := by
  obtain ⟨s1, s2, s3, s4, s5⟩ := h.seg.ite
  obtain ⟨e1, e2⟩ := end_ite h.ok h.seg
  obtain ⟨_, o1, o2⟩ := h.ok
  have hc := h.ctx
  rw [Tr.len_ite, show l.at_ + (1 + t.len + 1 + k.len) = l.at_ + 1 + t.len + 1 + k.len by omega] at hc
  have ho : outAt cs l.at_ = l.at_ + 1 + t.len + 1 := by unfold outAt; rw [e1]; simp only; rw [if_neg (by omega)]; omega
  have e : lnStep cs m id l M = (if l.R a.toNat = 0 then { l with at_ := l.at_ + 1 + t.len + 1 } else { l with at_ := l.at_ + 1 }) := by
    unfold lnStep
    simp only [s1, ho]
    rw [if_neg (by simp [cIf]), if_pos (by rfl)]
    rfl
  refine ⟨e, ?_⟩
  rw [e]
  by_cases hz : l.R a.toNat = 0
  · rw [if_pos hz, if_pos hz]
    exact ⟨s5, o2, hc, h.t⟩
  · rw [if_neg hz, if_neg hz]
    exact ⟨s2, o1, ⟨s3, s4, e2, by rw [s1]; rfl, s5, o2, hc⟩, h.t⟩
theorem At.step_itee {a : Int} {t e k : Tr} (h : At cs l (.itee a t e k) F) :
    lnStep cs m id l M = (if l.R a.toNat = 0 then { l with at_ := l.at_ + 1 + t.len + 1 } else { l with at_ := l.at_ + 1 }) ∧
    (if l.R a.toNat = 0 then At cs (lnStep cs m id l M) e (.fi l.at_ k :: F) else At cs (lnStep cs m id l M) t (.fe l.at_ e k :: F)) := by
  obtain ⟨s1, s2, s3, s4, s5, s6, s7⟩ := h.seg.itee
  obtain ⟨e1, e2, e3⟩ := end_itee h.ok h.seg
  obtain ⟨_, o1, o2, o3⟩ := h.ok
  have hc := h.ctx
  rw [Tr.len_itee, show l.at_ + (1 + t.len + 1 + e.len + 1 + k.len) = l.at_ + 1 + t.len + 1 + e.len + 1 + k.len by omega] at hc
  have ho : outAt cs l.at_ = l.at_ + 1 + t.len + 1 := by unfold outAt; rw [e1]; simp only; rw [if_pos (by omega)]; omega
  have e : lnStep cs m id l M = (if l.R a.toNat = 0 then { l with at_ := l.at_ + 1 + t.len + 1 } else { l with at_ := l.at_ + 1 }) := by
    unfold lnStep
    simp only [s1, ho]
    rw [if_neg (by simp [cIf]), if_pos (by rfl)]
    rfl
  refine ⟨e, ?_⟩
  rw [e]
  by_cases hz : l.R a.toNat = 0
  · rw [if_pos hz, if_pos hz]
    exact ⟨s4, o2, ⟨s5, s6, e3, by rw [s1]; rfl, s7, o3, hc⟩, h.t⟩
  · rw [if_neg hz, if_neg hz]
    exact ⟨s2, o1, ⟨s3, by show l.at_ + 1 + t.len < cs.length; omega, e2, by rw [e1], s7, o3, hc⟩, h.t⟩
theorem At.step_loop {a b : Int} {t k : Tr} (h : At cs l (.loop a b t k) F) :
    lnStep cs m id l M = (if l.R a.toNat = 0 then { l with at_ := l.at_ + 1 + t.len + 1 } else { l with at_ := l.at_ + 1, T := frT F ++ [b - 1] }) ∧
    (if l.R a.toNat = 0 then At cs (lnStep cs m id l M) k F else At cs (lnStep cs m id l M) t (.lo l.at_ a b (b - 1) t k :: F)) := by
  obtain ⟨s1, s2, s3, s4, s5⟩ := h.seg.loop
  obtain ⟨e1, e2⟩ := end_loop h.ok h.seg
  obtain ⟨_, ob, o1, o2⟩ := h.ok
  have hc := h.ctx
  rw [Tr.len_loop, show l.at_ + (1 + t.len + 1 + k.len) = l.at_ + 1 + t.len + 1 + k.len by omega] at hc
  have e : lnStep cs m id l M = (if l.R a.toNat = 0 then { l with at_ := l.at_ + 1 + t.len + 1 } else { l with at_ := l.at_ + 1, T := frT F ++ [b - 1] }) := by
    unfold lnStep
    simp only [s1, e1]
    rw [if_neg (by simp [cLoop]), if_neg (by simp [cLoop]), if_neg (by simp [cLoop]), if_pos (by rfl), ← h.t]
    have : (((l.at_ + 1 + t.len : Nat) : Int) + 1).toNat = l.at_ + 1 + t.len + 1 := by omega
    rw [this]
    rfl
  refine ⟨e, ?_⟩
  rw [e]
  by_cases hz : l.R a.toNat = 0
  · rw [if_pos hz, if_pos hz]
    exact ⟨s5, o2, hc, h.t⟩
  · rw [if_neg hz, if_neg hz]
    exact ⟨s2, o1, ⟨s3, s4, e2, s1, by omega, by omega, by omega, s2, o1, rfl, s5, o2, hc⟩, rfl⟩
theorem At.nil_ctx (h : At cs l .nil F) : Ctx cs l.at_ F := by
  have := h.ctx
  simpa [Tr.len, Tr.flat] using this
theorem At.step_fi {p : Nat} {k : Tr} (h : At cs l .nil (.fi p k :: F)) :
    lnStep cs m id l M = { l with at_ := l.at_ + 1 } ∧ At cs (lnStep cs m id l M) k F := by
  obtain ⟨s1, s2, s3, s4, s5, s6, s7⟩ := h.nil_ctx
  have e : lnStep cs m id l M = { l with at_ := l.at_ + 1 } := by
    unfold lnStep
    simp only [s1, s3, Int.toNat_natCast]
    rw [if_neg (by simp [cEnd]), if_neg (by simp [cEnd]), if_neg (by simp [cEnd]), if_neg (by simp [cEnd]), if_pos (by rfl), if_neg (by omega)]
  refine ⟨e, ?_⟩
  rw [e]
  exact ⟨s5, s6, s7, h.t⟩
theorem At.step_fe {p : Nat} {e k : Tr} (h : At cs l .nil (.fe p e k :: F)) :
    lnStep cs m id l M = { l with at_ := l.at_ + 1 + e.len + 1 } ∧ At cs (lnStep cs m id l M) k F := by
  obtain ⟨s1, s2, s3, s4, s5, s6, s7⟩ := h.nil_ctx
  have e : lnStep cs m id l M = { l with at_ := l.at_ + 1 + e.len + 1 } := by
    unfold lnStep
    simp only [s1, s3, s4, Int.toNat_natCast]
    rw [if_neg (by simp [cElse]), if_neg (by simp [cElse]), if_pos (by rfl)]
    congr 1
  refine ⟨e, ?_⟩
  rw [e]
  exact ⟨s5, s6, s7, h.t⟩
theorem At.step_lo {p : Nat} {a b r : Int} {t k : Tr} (h : At cs l .nil (.lo p a b r t k :: F)) :
    lnStep cs m id l M = (if 0 < r ∧ l.R a.toNat ≠ 0 then { l with at_ := p + 1, T := frT F ++ [r - 1] } else { l with at_ := l.at_ + 1, T := frT F }) ∧
    (if 0 < r ∧ l.R a.toNat ≠ 0 then At cs (lnStep cs m id l M) t (.lo p a b (r - 1) t k :: F) else At cs (lnStep cs m id l M) k F) := by
  obtain ⟨s1, s2, s3, s4, q1, q2, q3, s5, s6, s7, s8, s9, s10⟩ := h.nil_ctx
  have ht : l.T = frT F ++ [r] := h.t
  have e : lnStep cs m id l M = (if 0 < r ∧ l.R a.toNat ≠ 0 then { l with at_ := p + 1, T := frT F ++ [r - 1] } else { l with at_ := l.at_ + 1, T := frT F }) := by
    unfold lnStep
    simp only [s1, s3, s4, Int.toNat_natCast, ht]
    rw [if_neg (by simp [cEnd]), if_neg (by simp [cEnd]), if_neg (by simp [cEnd]), if_neg (by simp [cEnd]), if_pos (by rfl), if_pos (by rfl), getLast_frT, take_frT, set_frT]
    rfl
  refine ⟨e, ?_⟩
  rw [e]
  by_cases hz : 0 < r ∧ l.R a.toNat ≠ 0
  · rw [if_pos hz, if_pos hz]
    refine ⟨s5, s6, ⟨?_, ?_, ?_, s4, by omega, by omega, q3, s5, s6, rfl, ?_, s9, ?_⟩, rfl⟩
    all_goals
      try show cs.getD (p + 1 + t.len) default = cEnd
      try show p + 1 + t.len < cs.length
      try show aroundAt cs (p + 1 + t.len) = p
      try show Seg cs (p + 1 + t.len + 1) k
      try show Ctx cs (p + 1 + t.len + 1 + k.len) F
      rw [← s7]
      assumption
  · rw [if_neg hz, if_neg hz]
    exact ⟨s8, s9, s10, rfl⟩

/-- Every step shortens the way. -/
theorem At.goes {u : Tr} (h : At cs l u F) (hl : l.at_ < cs.length) : ∃ u' F', At cs (lnStep cs m id l M) u' F' ∧ u'.way + wayF F' + 1 ≤ u.way + wayF F := by
  cases u with
  | op c k =>
    exact ⟨k, F, (h.step_op (m := m) (id := id) (M := M)).2, by simp only [Tr.way]; omega⟩
  | ite a t k =>
    have := (h.step_ite (m := m) (id := id) (M := M)).2
    split at this
    · exact ⟨_, _, this, by simp only [Tr.way]; omega⟩
    · exact ⟨_, _, this, by simp only [Tr.way, wayF]; omega⟩
  | itee a t e k =>
    have := (h.step_itee (m := m) (id := id) (M := M)).2
    split at this
    · exact ⟨_, _, this, by simp only [Tr.way, wayF]; omega⟩
    · exact ⟨_, _, this, by simp only [Tr.way, wayF]; omega⟩
  | loop a b t k =>
    have hs := (h.step_loop (m := m) (id := id) (M := M)).2
    obtain ⟨_, ob, _, _⟩ := h.ok
    split at hs
    · exact ⟨_, _, hs, by simp only [Tr.way]; omega⟩
    · refine ⟨_, _, hs, ?_⟩
      simp only [Tr.way, wayF]
      obtain ⟨q, rfl⟩ : ∃ q : Nat, b = (q : Int) + 1 := ⟨(b - 1).toNat, by omega⟩
      rw [show ((q : Int) + 1 - 1).toNat = q by omega, show ((q : Int) + 1).toNat = q + 1 by omega, Nat.succ_mul]
      omega
  | nil =>
    cases F with
    | nil => have := h.done; omega
    | cons f F =>
      cases f with
      | fi p k => exact ⟨_, _, (h.step_fi (m := m) (id := id) (M := M)).2, by simp only [Tr.way, wayF]; omega⟩
      | fe p e k => exact ⟨_, _, (h.step_fe (m := m) (id := id) (M := M)).2, by simp only [Tr.way, wayF]; omega⟩
      | lo p a b r t k =>
        have hs := (h.step_lo (m := m) (id := id) (M := M)).2
        split at hs
        · rename_i hz
          refine ⟨_, _, hs, ?_⟩
          simp only [Tr.way, wayF]
          obtain ⟨q, rfl⟩ : ∃ q : Nat, r = (q : Int) + 1 := ⟨(r - 1).toNat, by omega⟩
          rw [show ((q : Int) + 1 - 1).toNat = q by omega, show ((q : Int) + 1).toNat = q + 1 by omega, Nat.succ_mul]
          omega
        · exact ⟨_, _, hs, by simp only [Tr.way, wayF]; omega⟩
end

/-- A lane somewhere on its way through a program, which is at most w steps long. -/
def OnWay (cs : List Cd) (l : Ln) (w : Nat) : Prop := ∃ u F, At cs l u F ∧ u.way + wayF F ≤ w
theorem OnWay.step {cs : List Cd} {l : Ln} {w m id : Nat} {M : Nat → Int} (h : OnWay cs l w) (hl : l.at_ < cs.length) : 1 ≤ w ∧ OnWay cs (lnStep cs m id l M) (w - 1) := by
  obtain ⟨u, F, h1, h2⟩ := h
  obtain ⟨u', F', g1, g2⟩ := h1.goes (m := m) (id := id) (M := M) hl
  exact ⟨by omega, u', F', g1, by omega⟩
theorem Ctx.le {cs : List Cd} : ∀ {F : List Fr} {j : Nat}, Ctx cs j F → j ≤ cs.length
  | [], _, h => by rw [show _ = _ from h]; exact Nat.le_refl _
  | .fi _ _ :: _, _, h => Nat.le_of_lt h.2.1
  | .fe _ _ _ :: _, _, h => Nat.le_of_lt h.2.1
  | .lo _ _ _ _ _ _ :: _, _, h => Nat.le_of_lt h.2.1
theorem OnWay.le {cs : List Cd} {l : Ln} {w : Nat} (h : OnWay cs l w) : l.at_ ≤ cs.length := by
  obtain ⟨u, F, h1, _⟩ := h
  have := h1.ctx.le
  omega
theorem OnWay.pass {cs : List Cd} {l : Ln} {w : Nat} (h : OnWay cs l w) (b : Bool) : OnWay cs { l with W := b } w := by
  obtain ⟨u, F, h1, h2⟩ := h
  exact ⟨u, F, ⟨h1.seg, h1.ok, h1.ctx, h1.t⟩, h2⟩
theorem OnWay.start {cs : List Cd} {t : Tr} (h1 : cs = t.flat) (h2 : t.Ok) : OnWay cs ln0 t.way :=
  ⟨t, [], ⟨Seg.whole h1, h2, by show (0 : Nat) + t.len = cs.length; rw [h1, Nat.zero_add]; rfl, rfl⟩, Nat.le_refl _⟩
end Go.Proofs.Ytajaonejpggcbaa

namespace Go.Proofs.Ytajaonejpggcbaa

/-- Lanes under way: the lanes, the memory, the steps so far (place, mask), the accesses so far, the phase. -/
structure CS where
  L : Nat → Ln
  M : Nat → Int
  H : List (Nat × Nat)
  A : List Ac
  P : Nat
def laneS (cs : List Cd) (m k : Nat) (s : CS) : CS :=
  { s with L := fun l => if l = k then lnStep cs m k (s.L k) s.M else s.L l, M := lnMem cs m (s.L k) s.M, A := s.A ++ lnAcc cs m k s.P (s.L k) }
/-- The lanes below j of a mask make a step. -/
def stepTo (cs : List Cd) (m mask : Nat) : Nat → CS → CS
  | 0, s => s
  | j + 1, s => if mask.testBit j then laneS cs m j (stepTo cs m mask j s) else stepTo cs m mask j s
def anyGo (cs : List Cd) (L : Nat → Ln) : Nat → Bool
  | 0 => false
  | j + 1 => goesL cs.length (L j) || anyGo cs L j
def anyWait (L : Nat → Ln) : Nat → Bool
  | 0 => false
  | j + 1 => (L j).W || anyWait L j
def freeL (n : Nat) (L : Nat → Ln) : Nat → Ln := fun l => if l < n then { L l with W := false } else L l
/-- A barrier is passed, if no lane can go on and some lane waits. -/
def passS (cs : List Cd) (n : Nat) (s : CS) : CS := if (anyGo cs s.L n || !anyWait s.L n) = true then s else { s with L := freeL n s.L, P := s.P + 1 }
/-- The lanes at the least place, and this place. -/
def leastTo (cs : List Cd) (L : Nat → Ln) : Nat → Nat × Nat
  | 0 => (0, cs.length)
  | j + 1 =>
    let r := leastTo cs L j
    if goesL cs.length (L j) = true then (if (L j).at_ < r.2 then (2 ^ j, (L j).at_) else if (L j).at_ = r.2 then (r.1 ||| 2 ^ j, r.2) else r) else r
def DoneL (cs : List Cd) (n : Nat) (L : Nat → Ln) : Prop := ∀ l, l < n → (L l).W = false ∧ cs.length ≤ (L l).at_
instance (cs : List Cd) (n : Nat) (L : Nat → Ln) : Decidable (DoneL cs n L) := inferInstanceAs (Decidable (∀ l, l < n → _))
def quietOp (c : Cd) : Bool := decide (c.op = 12 ∨ c.op = 14)
def noteC (cs : List Cd) (p mask : Nat) (s : CS) : CS := { s with H := if quietOp (cs.getD p default) = true then s.H else s.H ++ [(p, mask)] }
def leastStep (cs : List Cd) (n m : Nat) (s : CS) : CS :=
  if DoneL cs n s.L then s else passS cs n (stepTo cs m (leastTo cs s.L n).1 n (noteC cs (leastTo cs s.L n).2 (leastTo cs s.L n).1 s))
def lIter (cs : List Cd) (n m : Nat) : Nat → CS → CS
  | 0, s => s
  | j + 1, s => leastStep cs n m (lIter cs n m j s)

theorem anyGo_iff {cs : List Cd} {L : Nat → Ln} : ∀ {n : Nat}, anyGo cs L n = true ↔ ∃ l, l < n ∧ goesL cs.length (L l) = true
  | 0 => by simp [anyGo]
  | j + 1 => by
    unfold anyGo
    rw [Bool.or_eq_true, anyGo_iff (n := j)]
    constructor
    · rintro (h | ⟨l, h1, h2⟩)
      · exact ⟨j, by omega, h⟩
      · exact ⟨l, by omega, h2⟩
    · rintro ⟨l, h1, h2⟩
      by_cases e : l = j
      · subst e; exact .inl h2
      · exact .inr ⟨l, by omega, h2⟩
theorem anyWait_iff {L : Nat → Ln} : ∀ {n : Nat}, anyWait L n = true ↔ ∃ l, l < n ∧ (L l).W = true
  | 0 => by simp [anyWait]
  | j + 1 => by
    unfold anyWait
    rw [Bool.or_eq_true, anyWait_iff (n := j)]
    constructor
    · rintro (h | ⟨l, h1, h2⟩)
      · exact ⟨j, by omega, h⟩
      · exact ⟨l, by omega, h2⟩
    · rintro ⟨l, h1, h2⟩
      by_cases e : l = j
      · subst e; exact .inl h2
      · exact .inr ⟨l, by omega, h2⟩
theorem goes_iff {n : Nat} {l : Ln} : goesL n l = true ↔ l.W = false ∧ l.at_ < n := by
  unfold goesL; simp
/-- Whether the lanes are told free of the barrier. -/
theorem pass_L {cs : List Cd} {n : Nat} {s : CS} : (passS cs n s).L = if anyGo cs s.L n = true then s.L else freeL n s.L := by
  unfold passS
  by_cases h : anyGo cs s.L n = true
  · simp [h]
  · by_cases hw : anyWait s.L n = true
    · simp [h, hw]
    · have hf : freeL n s.L = s.L := funext fun l => by
        unfold freeL
        split
        · rename_i hl
          have : (s.L l).W = false := by
            cases hq : (s.L l).W
            · rfl
            · exact absurd (anyWait_iff.2 ⟨l, hl, hq⟩) hw
          rw [← this]
        · rfl
      simp [h, hw, hf]
theorem least_spec {cs : List Cd} {L : Nat → Ln} : ∀ j, (leastTo cs L j).2 ≤ cs.length ∧ (∀ l, l < j → goesL cs.length (L l) = true → (leastTo cs L j).2 ≤ (L l).at_) ∧
    (∀ l, (leastTo cs L j).1.testBit l = (decide (l < j) && (goesL cs.length (L l) && decide ((L l).at_ = (leastTo cs L j).2)))) ∧ ((leastTo cs L j).1 = 0 ↔ (leastTo cs L j).2 = cs.length) ∧ (leastTo cs L j).1 < 2 ^ j
  | 0 => by simp [leastTo]
  | j + 1 => by
    obtain ⟨h1, h2, h3, h4, h5⟩ := least_spec (cs := cs) (L := L) j
    have hp : 2 ^ j < 2 ^ (j + 1) := Nat.pow_lt_pow_right (by decide) (by omega)
    have hpp : 0 < 2 ^ j := Nat.pow_pos (by decide)
    unfold leastTo
    simp only
    by_cases hg : goesL cs.length (L j) = true
    · rw [if_pos hg]
      have hlt : (L j).at_ < cs.length := (goes_iff.1 hg).2
      by_cases ha : (L j).at_ < (leastTo cs L j).2
      · rw [if_pos ha]
        refine ⟨by simp only; omega, fun l hl hgl => ?_, fun l => ?_, ?_, hp⟩
        · simp only
          by_cases e : l = j
          · subst e; exact Nat.le_refl _
          · exact Nat.le_trans (Nat.le_of_lt ha) (h2 l (by omega) hgl)
        · simp only [Nat.testBit_two_pow]
          by_cases e : j = l
          · subst e; simp [hg]
          · have e1 : decide (j = l) = false := by simp [e]
            rw [e1]
            by_cases hl : l < j + 1
            · by_cases hgl : goesL cs.length (L l) = true
              · have := h2 l (by omega) hgl
                have : decide ((L l).at_ = (L j).at_) = false := by simp; omega
                simp [this]
              · simp [hgl]
            · simp [hl]
        · simp only
          constructor
          · intro h; omega
          · intro h; omega
      · rw [if_neg ha]
        by_cases he : (L j).at_ = (leastTo cs L j).2
        · rw [if_pos he]
          refine ⟨h1, fun l hl hgl => ?_, fun l => ?_, ?_, Nat.or_lt_two_pow (Nat.lt_trans h5 hp) hp⟩
          · simp only
            by_cases e : l = j
            · subst e; omega
            · exact h2 l (by omega) hgl
          · simp only [Nat.testBit_or, Nat.testBit_two_pow, h3 l]
            by_cases e : j = l
            · subst e; simp [hg, he]
            · have e1 : decide (j = l) = false := by simp [e]
              have e2 : decide (l < j + 1) = decide (l < j) := by rw [decide_eq_decide]; omega
              rw [e1, e2, Bool.or_false]
          · simp only
            constructor
            · intro h
              have := Nat.right_le_or (n := (leastTo cs L j).1) (m := 2 ^ j)
              omega
            · intro h; omega
        · rw [if_neg he]
          refine ⟨h1, fun l hl hgl => ?_, fun l => ?_, h4, Nat.lt_trans h5 hp⟩
          · by_cases e : l = j
            · subst e; omega
            · exact h2 l (by omega) hgl
          · rw [h3 l]
            by_cases e : l = j
            · subst e; simp [he]
            · have e2 : decide (l < j + 1) = decide (l < j) := by rw [decide_eq_decide]; omega
              rw [e2]
    · rw [if_neg hg]
      refine ⟨h1, fun l hl hgl => ?_, fun l => ?_, h4, Nat.lt_trans h5 hp⟩
      · by_cases e : l = j
        · subst e; exact absurd hgl hg
        · exact h2 l (by omega) hgl
      · rw [h3 l]
        by_cases e : l = j
        · subst e; simp [hg]
        · have e2 : decide (l < j + 1) = decide (l < j) := by rw [decide_eq_decide]; omega
          rw [e2]

theorem lIter_add (cs : List Cd) (n m i : Nat) (s : CS) : ∀ j, lIter cs n m (i + j) s = lIter cs n m j (lIter cs n m i s)
  | 0 => rfl
  | j + 1 => by show leastStep cs n m (lIter cs n m (i + j) s) = _; rw [lIter_add cs n m i s j]; rfl
/-- The run by the least places comes from one state to another one. -/
def Gets (cs : List Cd) (n m : Nat) (s s' : CS) : Prop := ∃ j, lIter cs n m j s = s'
theorem Gets.refl (cs : List Cd) (n m : Nat) (s : CS) : Gets cs n m s s := ⟨0, rfl⟩
theorem Gets.trans {cs : List Cd} {n m : Nat} {a b c : CS} (h : Gets cs n m a b) (k : Gets cs n m b c) : Gets cs n m a c := by
  obtain ⟨i, rfl⟩ := h
  obtain ⟨j, rfl⟩ := k
  exact ⟨i + j, lIter_add cs n m i a j⟩
end Go.Proofs.Ytajaonejpggcbaa

namespace Go.Proofs.Ytajaonejpggcbaa.Lw
open Go.RowKit

/-- Where the registers of lane k and the memory lie. -/
structure RMo where
  B : Nat
  k : Nat
  m : Nat
  gm : Nat
  cm : Nat
  c : Nat
  rows : Nat → Nat
def RMo.row (o : RMo) (k : Nat) : Value := .slice (some ⟨o.rows k, 0, none⟩) 4 o.c
def RMo.vm (o : RMo) : Value := .slice (some ⟨o.gm, 0, none⟩) o.m o.cm
/-- The lane whose registers they are. -/
def RMo.Is (o : RMo) (k : Nat) : Prop := k = o.k ∧ k < 8
theorem RMo.Is.eq {o : RMo} {k : Nat} (h : o.Is k) : k = o.k := And.left h
theorem RMo.Is.lt {o : RMo} {k : Nat} (h : o.Is k) : k < 8 := And.right h
def RMo.lane (o : RMo) (k : Nat) : Nat → Prop := fun b => b = o.rows k ∨ b = o.gm
structure RM (o : RMo) (w : World) (R : Nat → Nat → Int) (M : Nat → Int) : Prop where
  m1 : 1 ≤ o.m
  m32 : o.m ≤ 32
  row : OwnO w o.B 3 1 (o.row o.k) 4 (row4 (R o.k)).toList
  mem : OwnO w o.B 3 1 o.vm o.m (memL o.m M)
  ne : o.rows o.k ≠ o.gm

section
variable {o : RMo} {w w' : World} {R : Nat → Nat → Int} {M : Nat → Int}
theorem RM.chg {S : Nat → Prop} (h : RM o w R M) (hc : Chg S w w') (h2 : ¬ S (o.rows o.k)) (h3 : ¬ S o.gm) : RM o w' R M := by
  obtain ⟨a1, a2, a3, a4, a5⟩ := h
  refine ⟨a1, a2, a3.chg hc fun g hg => ?_, a4.chg hc fun g hg => ?_, a5⟩
  · simp [RMo.row, Value.ownBlock] at hg
    subst hg; exact h2
  · simp [RMo.vm, Value.ownBlock] at hg
    subst hg; exact h3
theorem RM.pure (h : RM o w R M) (hp : Pure w w') : RM o w' R M := h.chg (S := fun _ => False) (Chg.of_pure hp) id id
theorem RM.gmlo (h : RM o w R M) : o.B ≤ o.gm ∧ o.gm < w.heap.size := h.mem.lt o.gm rfl
theorem RM.rlo (h : RM o w R M) : o.B ≤ o.rows o.k ∧ o.rows o.k < w.heap.size := h.row.lt (o.rows o.k) rfl
theorem RM.rowLt (h : RM o w R M) {k : Nat} (hk : o.Is k) : o.rows k < w.heap.size := by rw [hk.eq]; exact h.rlo.2
theorem RM.regCell (h : RM o w R M) {k : Nat} (hk : o.Is k) {r : Nat} (hr : r < 4) : w.cell? ⟨o.rows k, r, none⟩ = some (.int .i64 (R k r)) := by
  have := h.row.cell r (by omega)
  rw [Nat.zero_add] at this
  rw [hk.eq, this]
  have : r = 0 ∨ r = 1 ∨ r = 2 ∨ r = 3 := by omega
  rcases this with rfl | rfl | rfl | rfl <;> rfl
theorem RM.regFrozen (h : RM o w R M) {k : Nat} (hk : o.Is k) (r : Nat) : w.frozen? ⟨o.rows k, r, none⟩ = false := by rw [hk.eq]; exact h.row.frozen r
theorem RM.memCell (h : RM o w R M) {j : Nat} (hj : j < o.m) : w.cell? ⟨o.gm, j, none⟩ = some (.int .i64 (M j)) := by
  have := h.mem.cell j (by omega)
  rw [Nat.zero_add] at this
  rw [this]; simp [memL, hj]
theorem RM.memFrozen (h : RM o w R M) (j : Nat) : w.frozen? ⟨o.gm, j, none⟩ = false := h.mem.frozen j
theorem row4_setL (f : Nat → Int) {r : Nat} (hr : r < 4) (v : Int) : (row4 f).toList.set r (.int .i64 v) = (row4 (setF f r v)).toList := by
  have : r = 0 ∨ r = 1 ∨ r = 2 ∨ r = 3 := by omega
  rcases this with rfl | rfl | rfl | rfl <;> rfl
theorem RM.setReg (h : RM o w R M) {k : Nat} (hk : o.Is k) {r : Nat} (hr : r < 4) (v : Int) : RM o (w.setCell ⟨o.rows k, r, none⟩ (.int .i64 v)) (upR R k (setF (R k) r v)) M := by
  obtain rfl := hk.eq
  have hc : Chg (fun b => b = o.rows o.k) w (w.setCell ⟨o.rows o.k, r, none⟩ (.int .i64 v)) := Chg.of_set w _ _ _ rfl
  have hgm : o.gm ≠ o.rows o.k := fun e => h.ne e.symm
  obtain ⟨a1, a2, a3, a4, a5⟩ := h
  refine ⟨a1, a2, ?_, a4.chg hc fun g hg => ?_, a5⟩
  · have h2 := a3.stored r (.int .i64 v)
    rw [Nat.zero_add, row4_setL _ hr] at h2
    have e : upR R o.k (setF (R o.k) r v) o.k = setF (R o.k) r v := if_pos rfl
    rw [e]; exact h2
  · simp [RMo.vm, Value.ownBlock] at hg
    subst hg; exact hgm
theorem RM.setMem (h : RM o w R M) (j : Nat) (v : Int) : RM o (w.setCell ⟨o.gm, j, none⟩ (.int .i64 v)) R (setF M j v) := by
  have hc : Chg (fun b => b = o.gm) w (w.setCell ⟨o.gm, j, none⟩ (.int .i64 v)) := Chg.of_set w _ _ _ rfl
  obtain ⟨a1, a2, a3, a4, a5⟩ := h
  refine ⟨a1, a2, a3.chg hc fun g hg => ?_, ?_, a5⟩
  · simp [RMo.row, Value.ownBlock] at hg
    subst hg; exact a5
  have := a4.stored j (.int .i64 v)
  rw [Nat.zero_add, memL_set] at this
  exact this
end

end Go.Proofs.Ytajaonejpggcbaa.Lw
