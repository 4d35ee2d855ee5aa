/-
  No statement is proved in this text. It shows in plain numbers that ShapeMotions returns true.
-/
import Derived.Test.YtpnlegfdkkcnlaaShf
import Derived.Test.YtpnlegfdkkcnlaaSane9
import Derived.Test.YtpnlegfdkkcnlaaMov
import Derived.Test.YtpnlegfdkkcnlaaShapeMotionsW
namespace Go.Proofs.Ytpnlegfdkkcnlaa
open Go.RowKit
set_option linter.unusedVariables false
set_option linter.unusedSimpArgs false

theorem mvp_gen (t : Int) (m : Bool) (a p : TPoint) (ht : t = 0 ∨ t = 1 ∨ t = 2 ∨ t = 3) : mvp t m a p = traP a (if t = 0 then (if m then mirP p else p) else if t = 1 then rotP (if m then mirP p else p) else if t = 2 then rotP (rotP (if m then mirP p else p)) else rotP (rotP (rotP (if m then mirP p else p)))) := by
  unfold mvp flip
  rcases ht with rfl | rfl | rfl | rfl <;> cases m <;> simp [traP, rotP, mirP]
theorem moveM_gen (t : Int) (m : Bool) (a : TPoint) (e : TEdge) (ht : t = 0 ∨ t = 1 ∨ t = 2 ∨ t = 3) (hc : e.Kind = 1 → e.C = ⟨0, 0⟩) : MoveM e t m a = traE a (if t = 0 then (if m then mirE e else e) else if t = 1 then rotE (if m then mirE e else e) else if t = 2 then rotE (rotE (if m then mirE e else e)) else rotE (rotE (rotE (if m then mirE e else e)))) := by
  have hg := fun p => mvp_gen t m a p ht
  by_cases hk : e.Kind = 1
  · have hC := hc hk
    unfold MoveM
    rw [hg, hg, if_pos hk, hC, hk]
    rcases ht with rfl | rfl | rfl | rfl <;> cases m <;> simp [traE, rotE, mirE, traP, rotP, mirP, hk, hC]
  · have hmk : ¬ (mirE e).Kind = 1 := fun x => hk ((mirE_kind e).1 x)
    unfold MoveM
    rw [hg, hg, hg, if_neg hk]
    rcases ht with rfl | rfl | rfl | rfl <;> cases m <;> simp [traE, rotE, hk, hmk] <;> simp [mirE]
theorem ins_cast {s t : TShape} {p q : TPoint} (h : s = t) (hp : p = q) : InsM s p ↔ InsM t q := by rw [h, hp]
theorem map_id' {s : TShape} (h : OkS s) (p : TPoint) (m : Bool) : (OkS ⟨s.Kind, s.Edges.map (fun e => if m then mirE e else e), s.R⟩) ∧ (InsM ⟨s.Kind, s.Edges.map (fun e => if m then mirE e else e), s.R⟩ (if m then mirP p else p) ↔ InsM s p) := by
  cases m
  · simp only [Bool.false_eq_true, if_false, List.map_id']
    exact ⟨h, trivial⟩
  · simp only [if_true]
    exact ⟨map_ok (T := mirE) (τ := mirP) (fun e => ⟨rfl, rfl⟩) h fun e he => mir_ok (h.2.1 e he), mir_ins h p⟩
theorem rot_step {s : TShape} {p q : TPoint} {f : TEdge → TEdge} (h : OkS s) (hf : OkS ⟨s.Kind, s.Edges.map f, s.R⟩ ∧ (InsM ⟨s.Kind, s.Edges.map f, s.R⟩ q ↔ InsM s p)) :
    OkS ⟨s.Kind, s.Edges.map (fun e => rotE (f e)), s.R⟩ ∧ (InsM ⟨s.Kind, s.Edges.map (fun e => rotE (f e)), s.R⟩ (rotP q) ↔ InsM s p) := by
  have hm : s.Edges.map (fun e => rotE (f e)) = (s.Edges.map f).map rotE := by rw [List.map_map]; rfl
  rw [hm]
  exact ⟨map_ok (s := ⟨s.Kind, s.Edges.map f, s.R⟩) (T := rotE) (τ := rotP) (fun e => ⟨rfl, rfl⟩) hf.1 fun e he => rot_ok (hf.1.2.1 e he), (rot_ins hf.1 q).trans hf.2⟩
theorem tra_step {s : TShape} {p q o : TPoint} {f : TEdge → TEdge} (h : OkS s) (hf : OkS ⟨s.Kind, s.Edges.map f, s.R⟩ ∧ (InsM ⟨s.Kind, s.Edges.map f, s.R⟩ q ↔ InsM s p)) (hm : ∀ e ∈ s.Edges, OkE (traE o (f e))) :
    OkS ⟨s.Kind, s.Edges.map (fun e => traE o (f e)), s.R⟩ ∧ (InsM ⟨s.Kind, s.Edges.map (fun e => traE o (f e)), s.R⟩ (traP o q) ↔ InsM s p) := by
  have hq : s.Edges.map (fun e => traE o (f e)) = (s.Edges.map f).map (traE o) := by rw [List.map_map]; rfl
  have hm' : ∀ e ∈ s.Edges.map f, OkE (traE o e) := fun e he => by
    obtain ⟨x, hx, rfl⟩ := List.mem_map.1 he; exact hm x hx
  rw [hq]
  exact ⟨map_ok (s := ⟨s.Kind, s.Edges.map f, s.R⟩) (T := traE o) (τ := traP o) (fun e => ⟨rfl, rfl⟩) hf.1 hm', (tra_ins hf.1 hm' q).trans hf.2⟩
theorem gen_ins {s : TShape} (h : OkS s) (p o : TPoint) (t : Int) (m : Bool) (ht : t = 0 ∨ t = 1 ∨ t = 2 ∨ t = 3) (hC : ∀ e ∈ s.Edges, e.Kind = 1 → e.C = ⟨0, 0⟩) (hm : ∀ e ∈ s.Edges, OkE (MoveM e t m o)) :
    OkS ⟨s.Kind, s.Edges.map (fun e => MoveM e t m o), s.R⟩ ∧ (InsM ⟨s.Kind, s.Edges.map (fun e => MoveM e t m o), s.R⟩ (mvp t m o p) ↔ InsM s p) := by
  have hmap : s.Edges.map (fun e => MoveM e t m o) = s.Edges.map (fun e => traE o (if t = 0 then (if m then mirE e else e) else if t = 1 then rotE (if m then mirE e else e) else if t = 2 then rotE (rotE (if m then mirE e else e)) else rotE (rotE (rotE (if m then mirE e else e))))) :=
    List.map_congr_left fun e he => moveM_gen t m o e ht (hC e he)
  have hm2 : ∀ e ∈ s.Edges, OkE (traE o (if t = 0 then (if m then mirE e else e) else if t = 1 then rotE (if m then mirE e else e) else if t = 2 then rotE (rotE (if m then mirE e else e)) else rotE (rotE (rotE (if m then mirE e else e))))) := fun e he => by
    rw [← moveM_gen t m o e ht (hC e he)]; exact hm e he
  rw [hmap, mvp_gen t m o p ht]
  have k0 := map_id' h p m
  have k1 := rot_step h k0
  have k2 := rot_step h k1
  have k3 := rot_step h k2
  rcases ht with rfl | rfl | rfl | rfl
  · simp only [if_true] at hm2 ⊢
    exact tra_step h k0 hm2
  · simp only [Int.reduceEq, if_true, if_false] at hm2 ⊢
    exact tra_step h k1 hm2
  · simp only [Int.reduceEq, if_true, if_false] at hm2 ⊢
    exact tra_step h k2 hm2
  · simp only [Int.reduceEq, if_true, if_false] at hm2 ⊢
    exact tra_step h k3 hm2
theorem shapeMotions_true (l m : List Int) (by_ : TMotion) : FShapeMotions l m by_ = true := by
  have hS := made9_ok l
  have hp := at9_b hS m
  obtain ⟨hok, hsm, h40, h8⟩ := hS
  have b1 := tmod_1000 by_.At.X
  have b2 := tmod_1000 by_.At.Y
  have e0 : wShapeMotions_0 by_ = ⟨Int.tmod by_.At.X 1000, Int.tmod by_.At.Y 1000⟩ := rfl
  have hsa : Sm (wShapeMotions_0 by_) := by rw [e0]; unfold Sm; simp only; omega
  have ha : (-1000 ≤ (wShapeMotions_0 by_).X ∧ (wShapeMotions_0 by_).X ≤ 1000) ∧ -1000 ≤ (wShapeMotions_0 by_).Y ∧ (wShapeMotions_0 by_).Y ≤ 1000 := by rw [e0]; simp only; omega
  have hsp : Sm (FAt9 (FMade9 l) m) := by unfold NB at hp; unfold Sm; omega
  have ht : by_.Turn % 4 = 0 ∨ by_.Turn % 4 = 1 ∨ by_.Turn % 4 = 2 ∨ by_.Turn % 4 = 3 := by omega
  have hC : ∀ e ∈ (FMade9 l).Edges, e.Kind = 1 → e.C = ⟨0, 0⟩ := fun e he hk => by
    have := (hok.2.1 e he).2
    unfold Form at this
    have hc : e.C.X = 0 ∧ e.C.Y = 0 := by omega
    obtain ⟨k, a, b, ⟨x, y⟩⟩ := e
    simp only at hc
    rw [hc.1, hc.2]
  have hw : wShapeMotions_1 l by_ = ⟨(FMade9 l).Kind, (FMade9 l).Edges.map (fun e => MoveM e (by_.Turn % 4) by_.Mirror (wShapeMotions_0 by_)), (FMade9 l).R⟩ := by
    unfold wShapeMotions_1
    rw [moveS_eq]
    congr 1
    exact List.map_congr_left fun e he => move_eq e ⟨wShapeMotions_0 by_, by_.Turn, by_.Mirror⟩ (hok.2.1 e he) (hsm e he) hsa
  obtain ⟨g1, g2⟩ := gen_ins hok (FAt9 (FMade9 l) m) (wShapeMotions_0 by_) (by_.Turn % 4) by_.Mirror ht hC fun e he => mot_ok (hok.2.1 e he) (hsm e he) ha
  have hap : Fref05Apply (TMotion.mk (wShapeMotions_0 by_) by_.Turn by_.Mirror) (FAt9 (FMade9 l) m) = mvp (by_.Turn % 4) by_.Mirror (wShapeMotions_0 by_) (FAt9 (FMade9 l) m) := apply5_mvp _ _ hsp hsa
  unfold FShapeMotions
  rw [sane9, hap, hw]
  have k1 : FCheckS ⟨(FMade9 l).Kind, (FMade9 l).Edges.map (fun e => MoveM e (by_.Turn % 4) by_.Mirror (wShapeMotions_0 by_)), (FMade9 l).R⟩ = 0 := by rw [checkS_eq, checkMS_zero]; exact g1
  have k2 : FInsideS ⟨(FMade9 l).Kind, (FMade9 l).Edges.map (fun e => MoveM e (by_.Turn % 4) by_.Mirror (wShapeMotions_0 by_)), (FMade9 l).R⟩ (mvp (by_.Turn % 4) by_.Mirror (wShapeMotions_0 by_) (FAt9 (FMade9 l) m)) = FInsideS (FMade9 l) (FAt9 (FMade9 l) m) := by
    rw [Bool.eq_iff_iff, inside_eqS, inside_eqS]; exact g2
  rw [k1, k2]
  simp only [cond_true, decide_true, beq_self_eq_true]
end Go.Proofs.Ytpnlegfdkkcnlaa
