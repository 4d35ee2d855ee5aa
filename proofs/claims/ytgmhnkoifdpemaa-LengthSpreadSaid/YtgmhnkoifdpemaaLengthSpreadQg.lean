/-
  Proved: the statement of LengthSpread; the parts before it hold what its proof needs.
-/
import Derived.Test.YtgmhnkoifdpemaaLengthSpreadQf
namespace Go.Proofs.Ytgmhnkoifdpemaa
set_option maxRecDepth 100000
set_option linter.unusedVariables false
set_option linter.unusedSimpArgs false
section
open Go.RowKit
theorem mp_trk {B : TBoard} (h : MadeP B) : (B.Tracks.length : Int) <= 1000000 := by have := h.trk; omega
theorem mp_edg {B : TBoard} (h : MadeP B) : ∀ i, ((B.Tracks.getD i default).Shape.Edges.length : Int) <= 1000000 := fun i => by
 by_cases hi : i < B.Tracks.length
 ·rw [List.getD_eq_getElem?_getD, List.getElem?_eq_getElem hi]
  have := h.edg _ (List.getElem_mem hi)
  show ((B.Tracks[i]).Shape.Edges.length : Int) <= 1000000
  omega
 ·rw [List.getD_eq_getElem?_getD, List.getElem?_eq_none (by omega)]
  exact (by decide : ((0 : Nat) : Int) <= 1000000)
theorem mp_net {B : TBoard} (h : MadeP B) : (B.Nets.length : Int) = 3 := by
 obtain ⟨p, q, r, e⟩ := h.net
 rw [e]; rfl
theorem more_trk {B : TBoard} (h : MadeP B) {t : TTrack} : ((B.Tracks ++ [t]).length : Int) <= 1000000 := by
 have := h.trk
 simp only [List.length_append, List.length_cons, List.length_nil]
 omega
theorem more_edg {B : TBoard} (h : MadeP B) {t : TTrack} (ht : (t.Shape.Edges.length : Int) <= 1000000) : ∀ i, (((B.Tracks ++ [t]).getD i default).Shape.Edges.length : Int) <= 1000000 := fun i => by
 by_cases hi : i < B.Tracks.length
 ·rw [List.getD_eq_getElem?_getD, List.getElem?_append_left hi, <- List.getD_eq_getElem?_getD]
  exact mp_edg h i
 ·by_cases hi2 : i = B.Tracks.length
  ·subst hi2
   rw [List.getD_eq_getElem?_getD, List.getElem?_append_right (Nat.le_refl _), Nat.sub_self]
   exact ht
  ·rw [List.getD_eq_getElem?_getD, List.getElem?_eq_none (by simp only [List.length_append, List.length_cons, List.length_nil]; omega)]
   exact (by decide : ((0 : Nat) : Int) <= 1000000)
def Z7j (c : TCase) (v41 : Int) : TNet := (((FMade17 c.Board).1).Nets).getD v41.toNat default
def Z7k (v8 : List ByteArray) (v119 : Int) : Bool := ((v8.getD v119.toNat default).toList == (({ data := #[71, 78, 68] } : ByteArray)).toList)
def Z7l (c : TCase) (v8 : List ByteArray) (v67 : Int) : Bool := !((FlenSpread ((FMade17 c.Board).1) (TMatch.mk (⟨#[]⟩) (v8.take (v67 + 1 : Int).toNat) 0)).2)
def FLengthSpread_l3 (c : TCase) (names : (List ByteArray)) (v8 : List ByteArray) (v41 : Int) (v9 : List ByteArray) (v12 : Int) (v13 : Int) (v67 : Int) (K0 : List ByteArray -> Int -> Bool) (K1 : List ByteArray -> Int -> Bool) (K2 : Int -> Int -> Bool) : Nat -> Int -> Bool
 | 0, _ => default
 | n3 + 1, v119 => bif decide ((v119 : Int) < ((v8.length : Int))) then (bif !decide (((FlenNet (TBoard.mk (((FMade17 c.Board).1).Layers) (((FMade17 c.Board).1).Outline) (((FMade17 c.Board).1).Parts) (((FMade17 c.Board).1).Nets) ((((FMade17 c.Board).1).Tracks) ++ [TTrack.mk 9999 (({ data := #[71, 78, 68] } : ByteArray)) 1 (FMade10 c.Shape)]) (((FMade17 c.Board).1).Vias) (((FMade17 c.Board).1).Pours) (((FMade17 c.Board).1).Keeps) (((FMade17 c.Board).1).Slots) (((FMade17 c.Board).1).Classes) (((FMade17 c.Board).1).Rules) (((FMade17 c.Board).1).Waivers) (((FMade17 c.Board).1).Matches)) (v8.getD v119.toNat default)) : Int) = (W64 ((FlenNet ((FMade17 c.Board).1) (v8.getD v119.toNat default)) + (bif Z7k v8 v119 then (FlenShape (FMade10 c.Shape)) else 0)))) then (false) else ((FLengthSpread_l3 c names v8 v41 v9 v12 v13 v67 K0 K1 K2 n3) (v119 + 1))) else (bif Fsanity25 then decide ((((FlenSpread ((FMade17 c.Board).1) (TMatch.mk (⟨#[]⟩) v9 0)).1) : Int) = v13) else false)
def FLengthSpread_l2 (c : TCase) (names : (List ByteArray)) (v8 : List ByteArray) (v41 : Int) (v9 : List ByteArray) (v12 : Int) (K0 : List ByteArray -> Int -> Bool) (K1 : List ByteArray -> Int -> Bool) : Nat -> Int -> Int -> Bool
 | 0, _, _ => default
 | n2 + 1, v13, v67 => bif decide ((v67 : Int) < (((v8.length : Nat) : Int))) then (bif bif bif Z7l c v8 v67 then true else decide ((((FlenSpread ((FMade17 c.Board).1) (TMatch.mk (⟨#[]⟩) (v8.take (v67 + 1 : Int).toNat) 0)).1) : Int) < v13) then true else bif decide ((v67 : Int) = 0) then !decide ((((FlenSpread ((FMade17 c.Board).1) (TMatch.mk (⟨#[]⟩) (v8.take (v67 + 1 : Int).toNat) 0)).1) : Int) = 0) else false then (false) else ((FLengthSpread_l2 c names v8 v41 v9 v12 K0 K1 n2) ((FlenSpread ((FMade17 c.Board).1) (TMatch.mk (⟨#[]⟩) (v8.take (v67 + 1 : Int).toNat) 0)).1) (v67 + 1))) else (FLengthSpread_l3 c names v8 v41 v9 v12 v13 v67 K0 K1 (FLengthSpread_l2 c names v8 v41 v9 v12 K0 K1 n2) (((((v8.length : Int))) - 0).toNat + 1) 0)
def FLengthSpread_l1 (c : TCase) (names : (List ByteArray)) (v8 : List ByteArray) (v41 : Int) (K0 : List ByteArray -> Int -> Bool) : Nat -> List ByteArray -> Int -> Bool
 | 0, _, _ => default
 | n1 + 1, v9, v12 => bif decide ((0 : Int) <= v12) then ((FLengthSpread_l1 c names v8 v41 K0 n1) (v9 ++ [v8.getD v12.toNat default]) (v12 - 1)) else (FLengthSpread_l2 c names v8 v41 v9 v12 K0 (FLengthSpread_l1 c names v8 v41 K0 n1) ((((((v8.length : Nat) : Int))) - 0).toNat + 1) 0 0)
def FLengthSpread_l0 (c : TCase) (names : (List ByteArray)) : Nat -> List ByteArray -> Int -> Bool
 | 0, _, _ => default
 | n0 + 1, v8, v41 => bif decide ((v41 : Int) < (((((FMade17 c.Board).1).Nets).length : Int))) then ((FLengthSpread_l0 c names n0) (v8 ++ [(Z7j c v41).Name]) (v41 + 1)) else (FLengthSpread_l1 c names v8 v41 (FLengthSpread_l0 c names n0) (((W64 ((((v8.length : Nat) : Int)) - 1)) + 1).toNat + 1) (([] : List ByteArray)) (W64 ((((v8.length : Nat) : Int)) - 1)))
def FLengthSpread (c : TCase) (names : (List ByteArray)) : Bool := FLengthSpread_l0 c names ((((((((FMade17 c.Board).1).Nets).length : Int))) - 0).toNat + 1) ([({ data := #[71, 78, 68] } : ByteArray)] ++ (names.take (min ((names.length : Int)) 3 : Int).toNat)) 0
def cLengthSpread (c : TCase) (names : (List ByteArray)) : FuncId × List Av × Ef := (7, [.agg (TCase.c c), .one (lst 1 (fun x => [.s x]) names)], .val [] (.av (.one (.b (FLengthSpread c names)))))
theorem au14 {p : Prop} (h : p := by first | with_reducible assumption | omega | decide | (simp only [List.length_cons, List.length_nil, List.length_append]; omega) | (exact mp_trk hM) | (exact mp_edg hM) | ((simp only; exact more_trk hM)) | ((simp only; exact more_edg hM hm)) | ((simp only; omega)) | ((simp only [List.length_take]; omega)) | assumption) : p := h
set_option maxHeartbeats 4000000 in
theorem pLengthSpread (c : TCase) (names : (List ByteArray)) (hc2 : (c.Shape.length : Int) <= 9223372036854775807) (hcb : (c.Board.length : Int) <= 9223372036854775807) (hll : ∀ x ∈ c.Board, (x.length : Int) <= 9223372036854775807) (hn : (names.length : Int) <= 9223372036854775807) : Pure Try.prog 7 (cLengthSpread c names).2.1 (.av (.one (.b (FLengthSpread c names)))) := by
 refine pure_of_awF Try.func7 rfl kr kr fun W0 M0 => ?_
 have hM := made_p c.Board
 have hm := made10_len c.Shape
 have hN := mp_net hM
 have hT := hM.trk
 have htk : ((names.take (min ((names.length : Int)) 3 : Int).toNat).length : Int) <= 3 := by rw [List.length_take]; omega
 refine aw_seq ?_
 refine aw_region eqok [] [] [] [1, 2] [2] [] ⟨[(1, .av (.one (lst 1 (fun x => [.s x]) names))), (2, tP 2 0)], [(2, .cells (TCase.c c) 29)]⟩ .nil kr .nil <| ath_n <| aw_seq ?_
 refine aw_region eqok [] [] [(24, csanity25)] [1, 2, 5] [2] [Same (csanity25).2.1] ⟨[(1, .av (.one (lst 1 (fun x => [.s x]) names))), (2, tP 2 0), (5, tB Fsanity25)], [(2, .cells (TCase.c c) 29)]⟩ (.cons (oksanity25) .nil) kr (.cons rfl .nil) <| ath_n <| aw_seq ?_
 refine aw_region eqok [] [] [(28, cMade17 c.Board)] [1, 2, 5, 6] [2, 6] [Same (cMade17 c.Board).2.1] ⟨[(1, .av (.one (lst 1 (fun x => [.s x]) names))), (2, tP 2 0), (5, tB Fsanity25), (6, tP 6 0)], [(2, .cells (TCase.c c) 29), (6, .cells (TBoard.c ((FMade17 c.Board).1)) 62)]⟩ (.cons (okMade17 c.Board au14 au14) .nil) kr (.cons rfl .nil) <| ath_n <| aw_seq ?_
 refine aw_region eqok [31] [] [] [2, 5, 6, 8] [2, 6, 37] [0 <= (0 : Int) /\ (0 : Int) <= (min ((names.length : Int)) 3 : Int) /\ (min ((names.length : Int)) 3 : Int) <= ((names.length : Nat) : Int), 1 = 1, 1 + ((min ((names.length : Int)) 3 : Int).toNat - (0 : Int).toNat) <= maxLen, (1 + ((min ((names.length : Int)) 3 : Int).toNat - (0 : Int).toNat)) * 16 <= 140737488355328] ⟨[(2, tP 2 0), (5, tB Fsanity25), (6, tP 6 0), (8, .av (.one (.own 37 1 (1 + ((min ((names.length : Int)) 3 : Int).toNat - (0 : Int).toNat)))))], [(2, .cells (TCase.c c) 29), (6, .cells (TBoard.c ((FMade17 c.Board).1)) 62), (37, .row 1 (1 + ((min ((names.length : Int)) 3 : Int).toNat - (0 : Int).toNat)) (fun i j => if i < 1 then (colsC 1 1 [.s (({ data := #[71, 78, 68] } : ByteArray))]) i j else (fun i j => (rowF (fun x => [.s x]) names) (i + (0 : Int).toNat) j) (i - 1) j) 9)]⟩ .nil kr (.cons au6 (.cons rfl (.cons au1 (.cons au1 .nil)))) <| ath_n ?_
 refine aw_cv (Cv.trans (cv_ce (⟨[(2, tP 2 0), (5, tB Fsanity25), (6, tP 6 0), (8, .av (.one (.own 37 1 (([({ data := #[71, 78, 68] } : ByteArray)] ++ (names.take (min ((names.length : Int)) 3 : Int).toNat)).length))))], [(2, .cells (TCase.c c) 29), (6, .cells (TBoard.c ((FMade17 c.Board).1)) 62), (37, .row 1 (([({ data := #[71, 78, 68] } : ByteArray)] ++ (names.take (min ((names.length : Int)) 3 : Int).toNat)).length) (rowF (fun x => [.s x]) ([({ data := #[71, 78, 68] } : ByteArray)] ++ (names.take (min ((names.length : Int)) 3 : Int).toNat))) 9)]⟩) (.cons ⟨rfl, .refl _⟩ (.cons ⟨rfl, .refl _⟩ (.cons ⟨rfl, .refl _⟩ (.cons ⟨rfl, .av (.one (.own _ _ au2))⟩ .nil)))) (.cons ⟨rfl, .refl _⟩ (.cons ⟨rfl, .refl _⟩ (.cons ⟨rfl, bke_told 9 (told_app (told_lit (c := (fun x => [.s x])) (xs := ([({ data := #[71, 78, 68] } : ByteArray)] : List ByteArray)) rfl kr) (told_take (b := min ((names.length : Int)) 3) (told_rfl 1 (fun x => [.s x]) names) (by have hc := (show 0 <= (0 : Int) /\ (0 : Int) <= (min ((names.length : Int)) 3 : Int) /\ (min ((names.length : Int)) 3 : Int) <= ((names.length : Nat) : Int) from au6); exact hc.2.1) (by have hc := (show 0 <= (0 : Int) /\ (0 : Int) <= (min ((names.length : Int)) 3 : Int) /\ (min ((names.length : Int)) 3 : Int) <= ((names.length : Nat) : Int) from au6); exact hc.2.2)))⟩ .nil)))) (Cv.refl _)) <| aw_seq ?_
 refine aw_region eqok [] [] [] [2, 5, 6, 8, 9] [2, 6, 37] [] ⟨[(2, tP 2 0), (5, tB Fsanity25), (6, tP 6 0), (8, .av (.one (.own 37 1 (([({ data := #[71, 78, 68] } : ByteArray)] ++ (names.take (min ((names.length : Int)) 3 : Int).toNat)).length)))), (9, .av (.one (vN)))], [(2, .cells (TCase.c c) 29), (6, .cells (TBoard.c ((FMade17 c.Board).1)) 62), (37, .row 1 (([({ data := #[71, 78, 68] } : ByteArray)] ++ (names.take (min ((names.length : Int)) 3 : Int).toNat)).length) (rowF (fun x => [.s x]) ([({ data := #[71, 78, 68] } : ByteArray)] ++ (names.take (min ((names.length : Int)) 3 : Int).toNat))) 9)]⟩ .nil kr .nil <| ath_n ?_
 refine aw_seq <| aw_seq ?_
 refine aw_region eqok [] [] [] [2, 5, 6, 8, 9, 39, 40, 41] [2, 6, 37] [] ⟨[(2, tP 2 0), (5, tB Fsanity25), (6, tP 6 0), (8, .av (.one (.own 37 1 (([({ data := #[71, 78, 68] } : ByteArray)] ++ (names.take (min ((names.length : Int)) 3 : Int).toNat)).length)))), (9, .av (.one (vN))), (39, .av (.one (lst 2 TNet.c (((FMade17 c.Board).1).Nets)))), (40, tI (((((FMade17 c.Board).1).Nets).length : Int))), (41, tI 0)], [(2, .cells (TCase.c c) 29), (6, .cells (TBoard.c ((FMade17 c.Board).1)) 62), (37, .row 1 (([({ data := #[71, 78, 68] } : ByteArray)] ++ (names.take (min ((names.length : Int)) 3 : Int).toNat)).length) (rowF (fun x => [.s x]) ([({ data := #[71, 78, 68] } : ByteArray)] ++ (names.take (min ((names.length : Int)) 3 : Int).toNat))) 9)]⟩ .nil kr .nil <| ath_n <| aw_block ?_
 refine aw_loopC (ι := Nat × List ByteArray × Int) (fun x => ⟨[(2, tP 2 0), (5, tB Fsanity25), (6, tP 6 0), (8, .av (.one (.own 37 1 x.2.1.length))), (9, .av (.one (vN))), (39, .av (.one (lst 2 TNet.c (((FMade17 c.Board).1).Nets)))), (40, tI (((((FMade17 c.Board).1).Nets).length : Int))), (41, tI x.2.2)], [(2, .cells (TCase.c c) 29), (6, .cells (TBoard.c ((FMade17 c.Board).1)) 62), (37, .row 1 x.2.1.length (rowF (fun x => [.s x]) x.2.1) 9)]⟩) (fun x => (((((((FMade17 c.Board).1).Nets).length : Int))) - x.2.2).toNat < x.1 /\ ((x.2.1.length : Int) <= 4 + x.2.2 /\ 0 <= x.2.2 /\ (x.2.2 <= (((((FMade17 c.Board).1).Nets).length : Int)) \/ x.2.2 = 0) /\ (x.2.1.length : Int) <= (([({ data := #[71, 78, 68] } : ByteArray)] ++ (names.take (min ((names.length : Int)) 3 : Int).toNat)).length : Int) + 1 * (x.2.2 - 0)) /\ FLengthSpread_l0 c names x.1 x.2.1 x.2.2 = FLengthSpread c names) (fun x => x.1) ?_ ((((((((FMade17 c.Board).1).Nets).length : Int))) - 0).toNat + 1, [({ data := #[71, 78, 68] } : ByteArray)] ++ (names.take (min ((names.length : Int)) 3 : Int).toNat), 0) ⟨Nat.lt_succ_self _, (by show (([({ data := #[71, 78, 68] } : ByteArray)] ++ (names.take (min ((names.length : Int)) 3 : Int).toNat)).length : Int) <= 4 + 0 /\ 0 <= 0 /\ (0 <= (((((FMade17 c.Board).1).Nets).length : Int)) \/ 0 = 0) /\ (([({ data := #[71, 78, 68] } : ByteArray)] ++ (names.take (min ((names.length : Int)) 3 : Int).toNat)).length : Int) <= (([({ data := #[71, 78, 68] } : ByteArray)] ++ (names.take (min ((names.length : Int)) 3 : Int).toNat)).length : Int) + 1 * (0 - 0); (refine ⟨?_, ?_, ?_⟩ <;> first | omega | exact at0)), (by simp only [FLengthSpread, cond_true, cond_false])⟩
 rintro ⟨n0, v8, v41⟩ ⟨hn, hinv, hF⟩
 have hm0 : (((((((FMade17 c.Board).1).Nets).length : Int))) - v41).toNat < n0 := hn; have hinv0 : (v8.length : Int) <= 4 + v41 /\ 0 <= v41 /\ (v41 <= (((((FMade17 c.Board).1).Nets).length : Int)) \/ v41 = 0) /\ (v8.length : Int) <= (([({ data := #[71, 78, 68] } : ByteArray)] ++ (names.take (min ((names.length : Int)) 3 : Int).toNat)).length : Int) + 1 * (v41 - 0) := hinv; have hF0 : FLengthSpread_l0 c names n0 v8 v41 = FLengthSpread c names := hF; clear hn hinv hF
 cases n0 with
 | zero => exact absurd hm0 (Nat.not_lt_zero _)
 | succ n0 =>
  refine aw_seq ?_
  refine aw_region eqok [] [] [] [2, 5, 6, 8, 9, 39, 40, 41, 42] [2, 6, 37] [] ⟨[(2, tP 2 0), (5, tB Fsanity25), (6, tP 6 0), (8, .av (.one (.own 37 1 v8.length))), (9, .av (.one (vN))), (39, .av (.one (lst 2 TNet.c (((FMade17 c.Board).1).Nets)))), (40, tI (((((FMade17 c.Board).1).Nets).length : Int))), (41, tI v41), (42, tB (decide ((v41 : Int) < (((((FMade17 c.Board).1).Nets).length : Int)))))], [(2, .cells (TCase.c c) 29), (6, .cells (TBoard.c ((FMade17 c.Board).1)) 62), (37, .row 1 v8.length (rowF (fun x => [.s x]) v8) 9)]⟩ .nil kr .nil <| ath_n <| aw_seq ?_
  refine aw_cond (decide ((v41 : Int) < (((((FMade17 c.Board).1).Nets).length : Int)))) kr (fun h1 => ?_) (fun h1 => ?_)
  ·have g1 := of_decide_eq_true h1
   refine aw_skip <| ath_n ?_
   refine aw_seq <| aw_block <| aw_seq ?_
   refine aw_region eqok [] [] [] [2, 5, 6, 8, 9, 11, 39, 40, 41] [2, 6, 11, 37] [0 <= (v41 : Int) /\ (v41 : Int) < (((((FMade17 c.Board).1).Nets).length : Nat) : Int)] ⟨[(2, tP 2 0), (5, tB Fsanity25), (6, tP 6 0), (8, .av (.one (.own 37 1 v8.length))), (9, .av (.one (vN))), (11, tP 11 0), (39, .av (.one (lst 2 TNet.c (((FMade17 c.Board).1).Nets)))), (40, tI (((((FMade17 c.Board).1).Nets).length : Int))), (41, tI v41)], [(2, .cells (TCase.c c) 29), (6, .cells (TBoard.c ((FMade17 c.Board).1)) 62), (11, .cells (TNet.c (Z7j c v41)) 69), (37, .row 1 v8.length (rowF (fun x => [.s x]) v8) 9)]⟩ .nil kr (.cons au6 .nil) <| ath_n ?_
   refine aw_region eqok [] [] [] [2, 5, 6, 8, 9, 39, 40, 41] [2, 6, 49] [v8.length = v8.length, v8.length + 1 <= maxLen, (v8.length + 1) * 16 <= 140737488355328] ⟨[(2, tP 2 0), (5, tB Fsanity25), (6, tP 6 0), (8, .av (.one (.own 49 1 (v8.length + 1)))), (9, .av (.one (vN))), (39, .av (.one (lst 2 TNet.c (((FMade17 c.Board).1).Nets)))), (40, tI (((((FMade17 c.Board).1).Nets).length : Int))), (41, tI v41)], [(2, .cells (TCase.c c) 29), (6, .cells (TBoard.c ((FMade17 c.Board).1)) 62), (49, .row 1 (v8.length + 1) (fun i j => if i < v8.length then (rowF (fun x => [.s x]) v8) i j else (colsC 1 1 [.s ((Z7j c v41).Name)]) (i - v8.length) j) 9)]⟩ .nil kr (.cons rfl (.cons au1 (.cons au1 .nil))) <| abl_n <| ath_n ?_
   refine aw_cv (Cv.trans (cv_ce (⟨[(2, tP 2 0), (5, tB Fsanity25), (6, tP 6 0), (8, .av (.one (.own 49 1 ((v8 ++ [(Z7j c v41).Name]).length)))), (9, .av (.one (vN))), (39, .av (.one (lst 2 TNet.c (((FMade17 c.Board).1).Nets)))), (40, tI (((((FMade17 c.Board).1).Nets).length : Int))), (41, tI v41)], [(2, .cells (TCase.c c) 29), (6, .cells (TBoard.c ((FMade17 c.Board).1)) 62), (49, .row 1 ((v8 ++ [(Z7j c v41).Name]).length) (rowF (fun x => [.s x]) (v8 ++ [(Z7j c v41).Name])) 9)]⟩) (.cons ⟨rfl, .refl _⟩ (.cons ⟨rfl, .refl _⟩ (.cons ⟨rfl, .refl _⟩ (.cons ⟨rfl, .av (.one (.own _ _ au2))⟩ lr)))) (.cons ⟨rfl, .refl _⟩ (.cons ⟨rfl, .refl _⟩ (.cons ⟨rfl, bke_told 9 (told_app (told_rfl 1 (fun x => [.s x]) v8) (told_lit (c := (fun x => [.s x])) (xs := ([(Z7j c v41).Name] : List ByteArray)) rfl kr))⟩ .nil)))) (Cv.refl _)) ?_
   refine aw_region eqok [] [] [] [2, 5, 6, 8, 9, 39, 40, 41] [2, 6, 49] [] ⟨[(2, tP 2 0), (5, tB Fsanity25), (6, tP 6 0), (8, .av (.one (.own 49 1 ((v8 ++ [(Z7j c v41).Name]).length)))), (9, .av (.one (vN))), (39, .av (.one (lst 2 TNet.c (((FMade17 c.Board).1).Nets)))), (40, tI (((((FMade17 c.Board).1).Nets).length : Int))), (41, tI (W64 (v41 + 1)))], [(2, .cells (TCase.c c) 29), (6, .cells (TBoard.c ((FMade17 c.Board).1)) 62), (49, .row 1 ((v8 ++ [(Z7j c v41).Name]).length) (rowF (fun x => [.s x]) (v8 ++ [(Z7j c v41).Name])) 9)]⟩ .nil kr .nil ?_
   (try rw [(show W64 (v41 + 1) = v41 + 1 from W64_id (by omega) au10)])
   refine ath_n ?_
   refine ⟨(n0, v8 ++ [(Z7j c v41).Name], v41 + 1), ⟨?_, ?_, (by rw [<- hF0]; simp only [FLengthSpread_l0, h1, cond_true, cond_false])⟩, Nat.lt_succ_self _, Cv.trans (cv_ren (⟨[(2, tP 2 0), (5, tB Fsanity25), (6, tP 6 0), (8, .av (.one (.own 37 1 ((v8 ++ [(Z7j c v41).Name]).length)))), (9, .av (.one (vN))), (39, .av (.one (lst 2 TNet.c (((FMade17 c.Board).1).Nets)))), (40, tI (((((FMade17 c.Board).1).Nets).length : Int))), (41, tI (v41 + 1))], [(2, .cells (TCase.c c) 29), (6, .cells (TBoard.c ((FMade17 c.Board).1)) 62), (37, .row 1 ((v8 ++ [(Z7j c v41).Name]).length) (rowF (fun x => [.s x]) (v8 ++ [(Z7j c v41).Name])) 9)]⟩) 49 37 (K := []) (fun k x h => by cases h) rfl rfl kr kr) (cv_eq kr)⟩
   ·show (((((((FMade17 c.Board).1).Nets).length : Int))) - (v41 + 1)).toNat < n0; omega
   ·exact (by show ((v8 ++ [(Z7j c v41).Name]).length : Int) <= 4 + (v41 + 1) /\ 0 <= (v41 + 1) /\ ((v41 + 1) <= (((((FMade17 c.Board).1).Nets).length : Int)) \/ (v41 + 1) = 0) /\ ((v8 ++ [(Z7j c v41).Name]).length : Int) <= (([({ data := #[71, 78, 68] } : ByteArray)] ++ (names.take (min ((names.length : Int)) 3 : Int).toNat)).length : Int) + 1 * ((v41 + 1) - 0); (simp only [List.length_append, List.length_cons, List.length_nil] at *; omega))
  ·have g1 := of_decide_eq_false h1
   refine aw_exit <| ath_e ?_
   refine ath_e <| abl_hit ?_
   refine ath_n <| aw_seq <| aw_seq ?_
   refine aw_region eqok [] [] [] [2, 5, 6, 8, 9, 12] [2, 6, 37] [] ⟨[(2, tP 2 0), (5, tB Fsanity25), (6, tP 6 0), (8, .av (.one (.own 37 1 v8.length))), (9, .av (.one (vN))), (12, tI (W64 ((((v8.length : Nat) : Int)) - 1)))], [(2, .cells (TCase.c c) 29), (6, .cells (TBoard.c ((FMade17 c.Board).1)) 62), (37, .row 1 v8.length (rowF (fun x => [.s x]) v8) 9)]⟩ .nil kr .nil <| ath_n <| aw_block ?_
   refine aw_cv (Cv.trans (cv_ghost (⟨[(2, tP 2 0), (5, tB Fsanity25), (6, tP 6 0), (8, .av (.one (.own 37 1 v8.length))), (9, .av (.one (.own 100000 1 0))), (12, tI (W64 ((((v8.length : Nat) : Int)) - 1)))], [(100000, .row 1 0 (fun _ _ => default) 9), (2, .cells (TCase.c c) 29), (6, .cells (TBoard.c ((FMade17 c.Board).1)) 62), (37, .row 1 v8.length (rowF (fun x => [.s x]) v8) 9)]⟩) 100000 1 (fun _ _ => default) 9 [(9, [0])] [] (K := []) (fun k x h => by cases h) rfl kr kr) (Cv.trans (cv_ce (⟨[(2, tP 2 0), (5, tB Fsanity25), (6, tP 6 0), (8, .av (.one (.own 37 1 v8.length))), (9, .av (.one (.own 100000 1 ((([] : List ByteArray)).length)))), (12, tI (W64 ((((v8.length : Nat) : Int)) - 1)))], [(100000, .row 1 ((([] : List ByteArray)).length) (rowF (fun x => [.s x]) (([] : List ByteArray))) 9), (2, .cells (TCase.c c) 29), (6, .cells (TBoard.c ((FMade17 c.Board).1)) 62), (37, .row 1 v8.length (rowF (fun x => [.s x]) v8) 9)]⟩) (.cons ⟨rfl, .refl _⟩ (.cons ⟨rfl, .refl _⟩ (.cons ⟨rfl, .refl _⟩ (.cons ⟨rfl, .refl _⟩ (.cons ⟨rfl, .av (.one (.own _ _ au2))⟩ lr))))) (.cons ⟨rfl, bke_told 9 (told_nil 1 (fun _ _ => default) (fun x => [.s x]))⟩ lr)) (Cv.trans (cv_keep [2, 5, 6, 8, 9, 12] [2, 6, 37, 100000] (⟨[(2, tP 2 0), (5, tB Fsanity25), (6, tP 6 0), (8, .av (.one (.own 37 1 v8.length))), (9, .av (.one (.own 100000 1 ((([] : List ByteArray)).length)))), (12, tI (W64 ((((v8.length : Nat) : Int)) - 1)))], [(2, .cells (TCase.c c) 29), (6, .cells (TBoard.c ((FMade17 c.Board).1)) 62), (37, .row 1 v8.length (rowF (fun x => [.s x]) v8) 9), (100000, .row 1 ((([] : List ByteArray)).length) (rowF (fun x => [.s x]) (([] : List ByteArray))) 9)]⟩) kr) (Cv.refl _)))) ?_
   refine aw_loopC (ι := Nat × List ByteArray × Int) (fun x => ⟨[(2, tP 2 0), (5, tB Fsanity25), (6, tP 6 0), (8, .av (.one (.own 37 1 v8.length))), (9, .av (.one (.own 100000 1 x.2.1.length))), (12, tI x.2.2)], [(2, .cells (TCase.c c) 29), (6, .cells (TBoard.c ((FMade17 c.Board).1)) 62), (37, .row 1 v8.length (rowF (fun x => [.s x]) v8) 9), (100000, .row 1 x.2.1.length (rowF (fun x => [.s x]) x.2.1) 9)]⟩) (fun x => (x.2.2 + 1).toNat < x.1 /\ (-1 <= x.2.2 /\ x.2.2 < (v8.length : Int) /\ (x.2.1.length : Int) <= (v8.length : Int) - 1 - x.2.2) /\ FLengthSpread_l1 c names v8 v41 (FLengthSpread_l0 c names n0) x.1 x.2.1 x.2.2 = FLengthSpread c names) (fun x => x.1) ?_ (((W64 ((((v8.length : Nat) : Int)) - 1)) + 1).toNat + 1, ([] : List ByteArray), W64 ((((v8.length : Nat) : Int)) - 1)) ⟨Nat.lt_succ_self _, (by show -1 <= (W64 ((((v8.length : Nat) : Int)) - 1)) /\ (W64 ((((v8.length : Nat) : Int)) - 1)) < (v8.length : Int) /\ ((([] : List ByteArray)).length : Int) <= (v8.length : Int) - 1 - (W64 ((((v8.length : Nat) : Int)) - 1)); (rw [W64_id (by omega) (by omega)]; simp only [List.length_nil]; omega)), (by rw [<- hF0]; simp only [FLengthSpread_l0, h1, cond_true, cond_false])⟩
   rintro ⟨n1, v9, v12⟩ ⟨hn, hinv, hF⟩
   have hm1 : (v12 + 1).toNat < n1 := hn; have hinv1 : -1 <= v12 /\ v12 < (v8.length : Int) /\ (v9.length : Int) <= (v8.length : Int) - 1 - v12 := hinv; have hF1 : FLengthSpread_l1 c names v8 v41 (FLengthSpread_l0 c names n0) n1 v9 v12 = FLengthSpread c names := hF; clear hn hinv hF
   cases n1 with
   | zero => exact absurd hm1 (Nat.not_lt_zero _)
   | succ n1 =>
    refine aw_seq <| aw_seq ?_
    refine aw_region eqok [] [] [] [2, 5, 6, 8, 9, 12, 55] [2, 6, 37, 100000] [] ⟨[(2, tP 2 0), (5, tB Fsanity25), (6, tP 6 0), (8, .av (.one (.own 37 1 v8.length))), (9, .av (.one (.own 100000 1 v9.length))), (12, tI v12), (55, tB (decide ((0 : Int) <= v12)))], [(2, .cells (TCase.c c) 29), (6, .cells (TBoard.c ((FMade17 c.Board).1)) 62), (37, .row 1 v8.length (rowF (fun x => [.s x]) v8) 9), (100000, .row 1 v9.length (rowF (fun x => [.s x]) v9) 9)]⟩ .nil kr .nil <| ath_n ?_
    refine aw_cond (decide ((0 : Int) <= v12)) kr (fun h2 => ?_) (fun h2 => ?_)
    ·have g2 := of_decide_eq_true h2
     refine aw_skip <| ath_n ?_
     refine aw_seq <| aw_block ?_
     refine aw_region eqok [] [] [] [2, 5, 6, 8, 9, 12] [2, 6, 37, 64] [0 <= (v12 : Int) /\ (v12 : Int) < ((v8.length : Nat) : Int), v12.toNat < v8.length, v9.length = v9.length, v9.length + 1 <= maxLen, (v9.length + 1) * 16 <= 140737488355328] ⟨[(2, tP 2 0), (5, tB Fsanity25), (6, tP 6 0), (8, .av (.one (.own 37 1 v8.length))), (9, .av (.one (.own 64 1 (v9.length + 1)))), (12, tI v12)], [(2, .cells (TCase.c c) 29), (6, .cells (TBoard.c ((FMade17 c.Board).1)) 62), (37, .row 1 v8.length (rowF (fun x => [.s x]) v8) 9), (64, .row 1 (v9.length + 1) (fun i j => if i < v9.length then (rowF (fun x => [.s x]) v9) i j else (colsC 1 1 [.s (v8.getD v12.toNat default)]) (i - v9.length) j) 9)]⟩ .nil kr (.cons au6 (.cons au6 (.cons rfl (.cons au1 (.cons au1 .nil))))) <| abl_n <| ath_n ?_
     refine aw_cv (Cv.trans (cv_ce (⟨[(2, tP 2 0), (5, tB Fsanity25), (6, tP 6 0), (8, .av (.one (.own 37 1 v8.length))), (9, .av (.one (.own 64 1 ((v9 ++ [v8.getD v12.toNat default]).length)))), (12, tI v12)], [(2, .cells (TCase.c c) 29), (6, .cells (TBoard.c ((FMade17 c.Board).1)) 62), (37, .row 1 v8.length (rowF (fun x => [.s x]) v8) 9), (64, .row 1 ((v9 ++ [v8.getD v12.toNat default]).length) (rowF (fun x => [.s x]) (v9 ++ [v8.getD v12.toNat default])) 9)]⟩) (.cons ⟨rfl, .refl _⟩ (.cons ⟨rfl, .refl _⟩ (.cons ⟨rfl, .refl _⟩ (.cons ⟨rfl, .refl _⟩ (.cons ⟨rfl, .av (.one (.own _ _ au2))⟩ lr))))) (.cons ⟨rfl, .refl _⟩ (.cons ⟨rfl, .refl _⟩ (.cons ⟨rfl, .refl _⟩ (.cons ⟨rfl, bke_told 9 (told_app (told_rfl 1 (fun x => [.s x]) v9) (told_lit (c := (fun x => [.s x])) (xs := ([v8.getD v12.toNat default] : List ByteArray)) rfl kr))⟩ .nil))))) (Cv.refl _)) ?_
     refine aw_region eqok [] [] [] [2, 5, 6, 8, 9, 12] [2, 6, 37, 64] [] ⟨[(2, tP 2 0), (5, tB Fsanity25), (6, tP 6 0), (8, .av (.one (.own 37 1 v8.length))), (9, .av (.one (.own 64 1 ((v9 ++ [v8.getD v12.toNat default]).length)))), (12, tI (W64 (v12 - 1)))], [(2, .cells (TCase.c c) 29), (6, .cells (TBoard.c ((FMade17 c.Board).1)) 62), (37, .row 1 v8.length (rowF (fun x => [.s x]) v8) 9), (64, .row 1 ((v9 ++ [v8.getD v12.toNat default]).length) (rowF (fun x => [.s x]) (v9 ++ [v8.getD v12.toNat default])) 9)]⟩ .nil kr .nil ?_
     (try rw [(show W64 (v12 - 1) = v12 - 1 from W64_id (by omega) (by omega))])
     refine ath_n ?_
     refine ⟨(n1, v9 ++ [v8.getD v12.toNat default], v12 - 1), ⟨?_, ?_, (by rw [<- hF1]; simp only [FLengthSpread_l1, h2, cond_true, cond_false])⟩, Nat.lt_succ_self _, Cv.trans (cv_ren (⟨[(2, tP 2 0), (5, tB Fsanity25), (6, tP 6 0), (8, .av (.one (.own 37 1 v8.length))), (9, .av (.one (.own 100000 1 ((v9 ++ [v8.getD v12.toNat default]).length)))), (12, tI (v12 - 1))], [(2, .cells (TCase.c c) 29), (6, .cells (TBoard.c ((FMade17 c.Board).1)) 62), (37, .row 1 v8.length (rowF (fun x => [.s x]) v8) 9), (100000, .row 1 ((v9 ++ [v8.getD v12.toNat default]).length) (rowF (fun x => [.s x]) (v9 ++ [v8.getD v12.toNat default])) 9)]⟩) 64 100000 (K := []) (fun k x h => by cases h) rfl rfl kr kr) (cv_eq kr)⟩
     ·show ((v12 - 1) + 1).toNat < n1; omega
     ·exact ⟨(by show -1 <= (v12 - 1); first | trivial | omega | exact at0 | exact at1 | exact at2 | (simp; omega) | simp), (by show (v12 - 1) < (v8.length : Int); first | trivial | omega | exact at0 | exact at1 | exact at2 | (simp; omega) | simp), (by show ((v9 ++ [v8.getD v12.toNat default]).length : Int) <= (v8.length : Int) - 1 - (v12 - 1); first | trivial | omega | exact at0 | exact at1 | exact at2 | (simp; omega) | simp)⟩
    ·have g2 := of_decide_eq_false h2
     refine aw_exit <| ath_e ?_
     refine ath_e <| abl_hit ?_
     refine ath_n <| aw_seq ?_
     refine aw_region eqok [] [] [] [2, 5, 6, 8, 9, 13] [2, 6, 37, 100000] [] ⟨[(2, tP 2 0), (5, tB Fsanity25), (6, tP 6 0), (8, .av (.one (.own 37 1 v8.length))), (9, .av (.one (.own 100000 1 v9.length))), (13, tI 0)], [(2, .cells (TCase.c c) 29), (6, .cells (TBoard.c ((FMade17 c.Board).1)) 62), (37, .row 1 v8.length (rowF (fun x => [.s x]) v8) 9), (100000, .row 1 v9.length (rowF (fun x => [.s x]) v9) 9)]⟩ .nil kr .nil <| ath_n ?_
     refine aw_seq <| aw_seq ?_
     refine aw_region eqok [] [] [] [2, 5, 6, 8, 9, 13, 66, 67] [2, 6, 37, 100000] [] ⟨[(2, tP 2 0), (5, tB Fsanity25), (6, tP 6 0), (8, .av (.one (.own 37 1 v8.length))), (9, .av (.one (.own 100000 1 v9.length))), (13, tI 0), (66, tI (((v8.length : Nat) : Int))), (67, tI 0)], [(2, .cells (TCase.c c) 29), (6, .cells (TBoard.c ((FMade17 c.Board).1)) 62), (37, .row 1 v8.length (rowF (fun x => [.s x]) v8) 9), (100000, .row 1 v9.length (rowF (fun x => [.s x]) v9) 9)]⟩ .nil kr .nil <| ath_n <| aw_block ?_
     refine aw_cv (Cv.trans (cv_fz (⟨[(2, tP 2 0), (5, tB Fsanity25), (6, tP 6 0), (8, .av (.one (lst 1 (fun x => [.s x]) v8))), (9, .av (.one (.own 100000 1 v9.length))), (13, tI 0), (66, tI (((v8.length : Nat) : Int))), (67, tI 0)], [(2, .cells (TCase.c c) 29), (6, .cells (TBoard.c ((FMade17 c.Board).1)) 62), (100000, .row 1 v9.length (rowF (fun x => [.s x]) v9) 9)]⟩) 37 1 v8.length (rowF (fun x => [.s x]) v8) 9 (K := []) (fun k x h => by cases h) kr kr (.cons ⟨rfl, rfl⟩ .nil) kr) (Cv.refl _)) ?_
     refine aw_loopC (ι := Nat × Int × Int) (fun x => ⟨[(2, tP 2 0), (5, tB Fsanity25), (6, tP 6 0), (8, .av (.one (lst 1 (fun x => [.s x]) v8))), (9, .av (.one (.own 100000 1 v9.length))), (13, tI x.2.1), (66, tI (((v8.length : Nat) : Int))), (67, tI x.2.2)], [(2, .cells (TCase.c c) 29), (6, .cells (TBoard.c ((FMade17 c.Board).1)) 62), (100000, .row 1 v9.length (rowF (fun x => [.s x]) v9) 9)]⟩) (fun x => (((((v8.length : Nat) : Int))) - x.2.2).toNat < x.1 /\ (0 <= x.2.2 /\ (x.2.2 <= (((v8.length : Nat) : Int)) \/ x.2.2 = 0)) /\ FLengthSpread_l2 c names v8 v41 v9 v12 (FLengthSpread_l0 c names n0) (FLengthSpread_l1 c names v8 v41 (FLengthSpread_l0 c names n0) n1) x.1 x.2.1 x.2.2 = FLengthSpread c names) (fun x => x.1) ?_ ((((((v8.length : Nat) : Int))) - 0).toNat + 1, 0, 0) ⟨Nat.lt_succ_self _, ⟨(by show 0 <= 0; first | trivial | omega | exact at0 | exact at1 | exact at2 | (simp; omega) | simp), (by show (0 <= (((v8.length : Nat) : Int)) \/ 0 = 0); first | trivial | omega | exact at0 | exact at1 | exact at2 | (simp; omega) | simp)⟩, (by rw [<- hF1]; simp only [FLengthSpread_l1, h2, cond_true, cond_false])⟩
     rintro ⟨n2, v13, v67⟩ ⟨hn, hinv, hF⟩
     have hm2 : (((((v8.length : Nat) : Int))) - v67).toNat < n2 := hn; have hinv2 : 0 <= v67 /\ (v67 <= (((v8.length : Nat) : Int)) \/ v67 = 0) := hinv; have hF2 : FLengthSpread_l2 c names v8 v41 v9 v12 (FLengthSpread_l0 c names n0) (FLengthSpread_l1 c names v8 v41 (FLengthSpread_l0 c names n0) n1) n2 v13 v67 = FLengthSpread c names := hF; clear hn hinv hF
     cases n2 with
     | zero => exact absurd hm2 (Nat.not_lt_zero _)
     | succ n2 =>
      refine aw_seq ?_
      refine aw_region eqok [] [] [] [2, 5, 6, 8, 9, 13, 66, 67, 68] [2, 6, 100000] [] ⟨[(2, tP 2 0), (5, tB Fsanity25), (6, tP 6 0), (8, .av (.one (lst 1 (fun x => [.s x]) v8))), (9, .av (.one (.own 100000 1 v9.length))), (13, tI v13), (66, tI (((v8.length : Nat) : Int))), (67, tI v67), (68, tB (decide ((v67 : Int) < (((v8.length : Nat) : Int)))))], [(2, .cells (TCase.c c) 29), (6, .cells (TBoard.c ((FMade17 c.Board).1)) 62), (100000, .row 1 v9.length (rowF (fun x => [.s x]) v9) 9)]⟩ .nil kr .nil <| ath_n <| aw_seq ?_
      refine aw_cond (decide ((v67 : Int) < (((v8.length : Nat) : Int)))) kr (fun h3 => ?_) (fun h3 => ?_)
      ·have g3 := of_decide_eq_true h3
       refine aw_skip <| ath_n ?_
       refine aw_seq <| aw_block <| aw_seq ?_
       refine aw_region eqok [] [] [] [2, 5, 6, 8, 9, 13, 14, 66, 67] [2, 6, 100000] [] ⟨[(2, tP 2 0), (5, tB Fsanity25), (6, tP 6 0), (8, .av (.one (lst 1 (fun x => [.s x]) v8))), (9, .av (.one (.own 100000 1 v9.length))), (13, tI v13), (14, tI v67), (66, tI (((v8.length : Nat) : Int))), (67, tI v67)], [(2, .cells (TCase.c c) 29), (6, .cells (TBoard.c ((FMade17 c.Board).1)) 62), (100000, .row 1 v9.length (rowF (fun x => [.s x]) v9) 9)]⟩ .nil kr .nil <| ath_n <| aw_seq ?_
       refine aw_draw mixed eqok [] [] [(77, ceI [.agg (TBoard.c ((FMade17 c.Board).1)), .agg [.s (⟨#[]⟩), .list false 1 ((W64 (v67 + 1) : Int).toNat - (0 : Int).toNat) (fun i j => (rowF (fun x => [.s x]) v8) (i + (0 : Int).toNat) j), .i 0]] (clenSpread ((FMade17 c.Board).1) (TMatch.mk (⟨#[]⟩) (v8.take (W64 (v67 + 1) : Int).toNat) 0)))] [2, 5, 6, 8, 9, 13, 14, 15, 16, 66, 67] [2, 6, 100000] [0 <= (0 : Int) /\ (0 : Int) <= (W64 (v67 + 1) : Int) /\ (W64 (v67 + 1) : Int) <= ((v8.length : Nat) : Int), Same (ceI [.agg (TBoard.c ((FMade17 c.Board).1)), .agg [.s (⟨#[]⟩), .list false 1 ((W64 (v67 + 1) : Int).toNat - (0 : Int).toNat) (fun i j => (rowF (fun x => [.s x]) v8) (i + (0 : Int).toNat) j), .i 0]] (clenSpread ((FMade17 c.Board).1) (TMatch.mk (⟨#[]⟩) (v8.take (W64 (v67 + 1) : Int).toNat) 0))).2.1] ⟨[(2, tP 2 0), (5, tB Fsanity25), (6, tP 6 0), (8, .av (.one (lst 1 (fun x => [.s x]) v8))), (9, .av (.one (.own 100000 1 v9.length))), (13, tI v13), (14, tI v67), (15, tI ((FlenSpread ((FMade17 c.Board).1) (TMatch.mk (⟨#[]⟩) (v8.take (W64 (v67 + 1) : Int).toNat) 0)).1)), (16, tB ((FlenSpread ((FMade17 c.Board).1) (TMatch.mk (⟨#[]⟩) (v8.take (W64 (v67 + 1) : Int).toNat) 0)).2)), (66, tI (((v8.length : Nat) : Int))), (67, tI v67)], [(2, .cells (TCase.c c) 29), (6, .cells (TBoard.c ((FMade17 c.Board).1)) 62), (100000, .row 1 v9.length (rowF (fun x => [.s x]) v9) 9)]⟩ (.cons (callOk_ce (oklenSpread ((FMade17 c.Board).1) (TMatch.mk (⟨#[]⟩) (v8.take (W64 (v67 + 1) : Int).toNat) 0) au14 au14 au14) (.cons (AvE.refl _) (.cons (.agg (.cons (.refl _) (.cons (cle_told false (told_take (b := W64 (v67 + 1)) (told_rfl 1 (fun x => [.s x]) v8) (by have hc := (show 0 <= (0 : Int) /\ (0 : Int) <= (W64 (v67 + 1) : Int) /\ (W64 (v67 + 1) : Int) <= ((v8.length : Nat) : Int) from au6); exact hc.2.1) (by have hc := (show 0 <= (0 : Int) /\ (0 : Int) <= (W64 (v67 + 1) : Int) /\ (W64 (v67 + 1) : Int) <= ((v8.length : Nat) : Int) from au6); exact hc.2.2))) (.cons (.refl _) .nil)))) .nil))) .nil) kr kr (.cons au6 (.cons rfl .nil)) ?_
       (try rw [(show W64 (v67 + 1) = v67 + 1 from W64_id (by omega) au10)])
       refine ath_n <| aw_seq <| aw_seq ?_
       refine aw_region eqok [] [] [] [2, 5, 6, 8, 9, 15, 66, 67, 94] [2, 6, 100000] [((Z7l c v8 v67) = false) -> ((Z7l c v8 v67) = false), ((Z7l c v8 v67) = false) -> ((Z7l c v8 v67) = false), (Z7l c v8 v67) = false -> ((Z7l c v8 v67) = false), ((bif Z7l c v8 v67 then true else decide ((((FlenSpread ((FMade17 c.Board).1) (TMatch.mk (⟨#[]⟩) (v8.take (v67 + 1 : Int).toNat) 0)).1) : Int) < v13)) = false) -> ((bif Z7l c v8 v67 then true else decide ((((FlenSpread ((FMade17 c.Board).1) (TMatch.mk (⟨#[]⟩) (v8.take (v67 + 1 : Int).toNat) 0)).1) : Int) < v13)) = false), ((bif Z7l c v8 v67 then true else decide ((((FlenSpread ((FMade17 c.Board).1) (TMatch.mk (⟨#[]⟩) (v8.take (v67 + 1 : Int).toNat) 0)).1) : Int) < v13)) = false) -> ((bif Z7l c v8 v67 then true else decide ((((FlenSpread ((FMade17 c.Board).1) (TMatch.mk (⟨#[]⟩) (v8.take (v67 + 1 : Int).toNat) 0)).1) : Int) < v13)) = false), (((bif Z7l c v8 v67 then true else decide ((((FlenSpread ((FMade17 c.Board).1) (TMatch.mk (⟨#[]⟩) (v8.take (v67 + 1 : Int).toNat) 0)).1) : Int) < v13)) = false) /\ (decide ((v67 : Int) = 0)) = true) -> (((bif Z7l c v8 v67 then true else decide ((((FlenSpread ((FMade17 c.Board).1) (TMatch.mk (⟨#[]⟩) (v8.take (v67 + 1 : Int).toNat) 0)).1) : Int) < v13)) = false) /\ (decide ((v67 : Int) = 0)) = true), ((bif Z7l c v8 v67 then true else decide ((((FlenSpread ((FMade17 c.Board).1) (TMatch.mk (⟨#[]⟩) (v8.take (v67 + 1 : Int).toNat) 0)).1) : Int) < v13)) = false) -> ((bif Z7l c v8 v67 then true else decide ((((FlenSpread ((FMade17 c.Board).1) (TMatch.mk (⟨#[]⟩) (v8.take (v67 + 1 : Int).toNat) 0)).1) : Int) < v13)) = false), ((bif Z7l c v8 v67 then true else decide ((((FlenSpread ((FMade17 c.Board).1) (TMatch.mk (⟨#[]⟩) (v8.take (v67 + 1 : Int).toNat) 0)).1) : Int) < v13)) = false) -> ((decide ((v67 : Int) = 0)) = true -> (((bif Z7l c v8 v67 then true else decide ((((FlenSpread ((FMade17 c.Board).1) (TMatch.mk (⟨#[]⟩) (v8.take (v67 + 1 : Int).toNat) 0)).1) : Int) < v13)) = false) /\ (decide ((v67 : Int) = 0)) = true)), (bif Z7l c v8 v67 then true else decide ((((FlenSpread ((FMade17 c.Board).1) (TMatch.mk (⟨#[]⟩) (v8.take (v67 + 1 : Int).toNat) 0)).1) : Int) < v13)) = false -> ((bif Z7l c v8 v67 then true else decide ((((FlenSpread ((FMade17 c.Board).1) (TMatch.mk (⟨#[]⟩) (v8.take (v67 + 1 : Int).toNat) 0)).1) : Int) < v13)) = false)] ⟨[(2, tP 2 0), (5, tB Fsanity25), (6, tP 6 0), (8, .av (.one (lst 1 (fun x => [.s x]) v8))), (9, .av (.one (.own 100000 1 v9.length))), (15, tI ((FlenSpread ((FMade17 c.Board).1) (TMatch.mk (⟨#[]⟩) (v8.take (v67 + 1 : Int).toNat) 0)).1)), (66, tI (((v8.length : Nat) : Int))), (67, tI v67), (94, tB (bif bif Z7l c v8 v67 then true else decide ((((FlenSpread ((FMade17 c.Board).1) (TMatch.mk (⟨#[]⟩) (v8.take (v67 + 1 : Int).toNat) 0)).1) : Int) < v13) then true else bif decide ((v67 : Int) = 0) then !decide ((((FlenSpread ((FMade17 c.Board).1) (TMatch.mk (⟨#[]⟩) (v8.take (v67 + 1 : Int).toNat) 0)).1) : Int) = 0) else false))], [(2, .cells (TCase.c c) 29), (6, .cells (TBoard.c ((FMade17 c.Board).1)) 62), (100000, .row 1 v9.length (rowF (fun x => [.s x]) v9) 9)]⟩ .nil kr (.cons id (.cons id (.cons id (.cons id (.cons id (.cons id (.cons id (.cons (by intros; first | assumption | exact ⟨by assumption, by assumption⟩ | simp_all) (.cons id .nil))))))))) <| ath_n ?_
       refine aw_cond (bif bif Z7l c v8 v67 then true else decide ((((FlenSpread ((FMade17 c.Board).1) (TMatch.mk (⟨#[]⟩) (v8.take (v67 + 1 : Int).toNat) 0)).1) : Int) < v13) then true else bif decide ((v67 : Int) = 0) then !decide ((((FlenSpread ((FMade17 c.Board).1) (TMatch.mk (⟨#[]⟩) (v8.take (v67 + 1 : Int).toNat) 0)).1) : Int) = 0) else false) kr (fun h4 => ?_) (fun h4 => ?_)
       ·refine aw_seq ?_
        refine aw_region eqok [] [] [] [4] [] [] ⟨[(4, tB false)], []⟩ .nil kr .nil <| ath_n ?_
        refine aw_ret <| ath_r ?_
        refine abl_r <| ath_r ?_
        refine ath_r <| abl_r <| ath_r ?_
        exact ⟨_, Cv.refl _, .inl rfl, .av (.one (.b false)), by kernel_rfl, tve_eq (by rw [<- hF2]; first | (simp only [FLengthSpread_l2, h3, h4, cond_true, cond_false] <;> rfl))⟩
       ·refine aw_skip <| ath_n ?_
        refine aw_region eqok [] [] [] [2, 5, 6, 8, 9, 13, 66, 67] [2, 6, 100000] [] ⟨[(2, tP 2 0), (5, tB Fsanity25), (6, tP 6 0), (8, .av (.one (lst 1 (fun x => [.s x]) v8))), (9, .av (.one (.own 100000 1 v9.length))), (13, tI ((FlenSpread ((FMade17 c.Board).1) (TMatch.mk (⟨#[]⟩) (v8.take (v67 + 1 : Int).toNat) 0)).1)), (66, tI (((v8.length : Nat) : Int))), (67, tI v67)], [(2, .cells (TCase.c c) 29), (6, .cells (TBoard.c ((FMade17 c.Board).1)) 62), (100000, .row 1 v9.length (rowF (fun x => [.s x]) v9) 9)]⟩ .nil kr .nil <| abl_n <| ath_n ?_
        refine aw_region eqok [] [] [] [2, 5, 6, 8, 9, 13, 66, 67] [2, 6, 100000] [] ⟨[(2, tP 2 0), (5, tB Fsanity25), (6, tP 6 0), (8, .av (.one (lst 1 (fun x => [.s x]) v8))), (9, .av (.one (.own 100000 1 v9.length))), (13, tI ((FlenSpread ((FMade17 c.Board).1) (TMatch.mk (⟨#[]⟩) (v8.take (v67 + 1 : Int).toNat) 0)).1)), (66, tI (((v8.length : Nat) : Int))), (67, tI (W64 (v67 + 1)))], [(2, .cells (TCase.c c) 29), (6, .cells (TBoard.c ((FMade17 c.Board).1)) 62), (100000, .row 1 v9.length (rowF (fun x => [.s x]) v9) 9)]⟩ .nil kr .nil ?_
        (try rw [(show W64 (v67 + 1) = v67 + 1 from W64_id (by omega) au10)])
        refine ath_n ?_
        refine ⟨(n2, (FlenSpread ((FMade17 c.Board).1) (TMatch.mk (⟨#[]⟩) (v8.take (v67 + 1 : Int).toNat) 0)).1, v67 + 1), ⟨?_, ?_, (by rw [<- hF2]; simp only [FLengthSpread_l2, h3, h4, cond_true, cond_false])⟩, Nat.lt_succ_self _, cv_eq kr⟩
        ·show (((((v8.length : Nat) : Int))) - (v67 + 1)).toNat < n2; omega
        ·exact ⟨(by show 0 <= (v67 + 1); first | trivial | omega | exact at0 | exact at1 | exact at2 | (simp; omega) | simp), (by show ((v67 + 1) <= (((v8.length : Nat) : Int)) \/ (v67 + 1) = 0); first | trivial | omega | exact at0 | exact at1 | exact at2 | (simp; omega) | simp)⟩
      ·have g3 := of_decide_eq_false h3
       refine aw_exit <| ath_e ?_
       refine ath_e <| abl_hit ?_
       refine ath_n <| aw_seq ?_
       refine aw_cv (Cv.trans (cv_fz (⟨[(2, tP 2 0), (5, tB Fsanity25), (6, tP 6 0), (8, .av (.one (lst 1 (fun x => [.s x]) v8))), (9, .av (.one (lst 1 (fun x => [.s x]) v9))), (13, tI v13), (66, tI (((v8.length : Nat) : Int))), (67, tI v67), (68, tB (decide ((v67 : Int) < (((v8.length : Nat) : Int)))))], [(2, .cells (TCase.c c) 29), (6, .cells (TBoard.c ((FMade17 c.Board).1)) 62)]⟩) 100000 1 v9.length (rowF (fun x => [.s x]) v9) 9 (K := []) (fun k x h => by cases h) kr kr (.cons ⟨rfl, rfl⟩ .nil) kr) (Cv.refl _)) ?_
       refine aw_region eqok [] [] [(101, clenSpread ((FMade17 c.Board).1) (TMatch.mk (⟨#[]⟩) v9 0))] [2, 5, 6, 8, 13, 17] [2, 6] [Same (clenSpread ((FMade17 c.Board).1) (TMatch.mk (⟨#[]⟩) v9 0)).2.1] ⟨[(2, tP 2 0), (5, tB Fsanity25), (6, tP 6 0), (8, .av (.one (lst 1 (fun x => [.s x]) v8))), (13, tI v13), (17, tI ((FlenSpread ((FMade17 c.Board).1) (TMatch.mk (⟨#[]⟩) v9 0)).1))], [(2, .cells (TCase.c c) 29), (6, .cells (TBoard.c ((FMade17 c.Board).1)) 62)]⟩ (.cons (oklenSpread ((FMade17 c.Board).1) (TMatch.mk (⟨#[]⟩) v9 0) au14 au14 au14) .nil) kr (.cons rfl .nil) <| ath_n <| aw_seq ?_
       refine aw_region eqok [] [] [] [2, 5, 6, 8, 13, 17, 19] [2, 6, 19] [] ⟨[(2, tP 2 0), (5, tB Fsanity25), (6, tP 6 0), (8, .av (.one (lst 1 (fun x => [.s x]) v8))), (13, tI v13), (17, tI ((FlenSpread ((FMade17 c.Board).1) (TMatch.mk (⟨#[]⟩) v9 0)).1)), (19, tP 19 0)], [(2, .cells (TCase.c c) 29), (6, .cells (TBoard.c ((FMade17 c.Board).1)) 62), (19, .cells (TBoard.c ((FMade17 c.Board).1)) 62)]⟩ .nil kr .nil <| ath_n <| aw_seq ?_
       refine aw_region eqok [] [] [(107, cMade10 c.Shape)] [5, 6, 8, 13, 17, 19, 20] [6, 19, 20] [Same (cMade10 c.Shape).2.1] ⟨[(5, tB Fsanity25), (6, tP 6 0), (8, .av (.one (lst 1 (fun x => [.s x]) v8))), (13, tI v13), (17, tI ((FlenSpread ((FMade17 c.Board).1) (TMatch.mk (⟨#[]⟩) v9 0)).1)), (19, tP 19 0), (20, tP 20 0)], [(6, .cells (TBoard.c ((FMade17 c.Board).1)) 62), (19, .cells (TBoard.c ((FMade17 c.Board).1)) 62), (20, .cells (TShape.c (FMade10 c.Shape)) 36)]⟩ (.cons (okMade10 c.Shape au14) .nil) kr (.cons rfl .nil) <| ath_n <| aw_seq ?_
       refine aw_draw mixed eqok [108] [] [] [5, 6, 8, 13, 17, 19, 20] [6, 19, 20, 115] [0 = 0, 0 + ((((FMade17 c.Board).1).Tracks).length) <= maxLen, (0 + ((((FMade17 c.Board).1).Tracks).length)) * 72 <= 140737488355328, 0 + ((((FMade17 c.Board).1).Tracks).length) = 0 + ((((FMade17 c.Board).1).Tracks).length), (0 + ((((FMade17 c.Board).1).Tracks).length)) + 1 <= maxLen, ((0 + ((((FMade17 c.Board).1).Tracks).length)) + 1) * 72 <= 140737488355328] ⟨[(5, tB Fsanity25), (6, tP 6 0), (8, .av (.one (lst 1 (fun x => [.s x]) v8))), (13, tI v13), (17, tI ((FlenSpread ((FMade17 c.Board).1) (TMatch.mk (⟨#[]⟩) v9 0)).1)), (19, tP 19 0), (20, tP 20 0)], [(6, .cells (TBoard.c ((FMade17 c.Board).1)) 62), (19, .cells [.i (((FMade17 c.Board).1).Layers), .i ((((FMade17 c.Board).1).Outline).Kind), lst 7 TEdge.c ((((FMade17 c.Board).1).Outline).Edges), .i ((((FMade17 c.Board).1).Outline).R), lst 7 TPlaced.c (((FMade17 c.Board).1).Parts), lst 2 TNet.c (((FMade17 c.Board).1).Nets), .own 115 6 ((0 + ((((FMade17 c.Board).1).Tracks).length)) + 1), lst 8 TVia.c (((FMade17 c.Board).1).Vias), lst 8 TPour.c (((FMade17 c.Board).1).Pours), lst 5 TKeep.c (((FMade17 c.Board).1).Keeps), lst 4 TSlot.c (((FMade17 c.Board).1).Slots), lst 2 TClass.c (((FMade17 c.Board).1).Classes), lst 20 TRule.c (((FMade17 c.Board).1).Rules), lst 3 TWaiver.c (((FMade17 c.Board).1).Waivers), lst 3 TMatch.c (((FMade17 c.Board).1).Matches)] 62), (20, .cells (TShape.c (FMade10 c.Shape)) 36), (115, .row 6 ((0 + ((((FMade17 c.Board).1).Tracks).length)) + 1) (fun i j => if i < (0 + ((((FMade17 c.Board).1).Tracks).length)) then (fun i j => if i < 0 then (colsC 6 0 []) i j else (rowF TTrack.c (((FMade17 c.Board).1).Tracks)) (i - 0) j) i j else (colsC 6 1 [.i 9999, .s (({ data := #[71, 78, 68] } : ByteArray)), .i 1, .i ((FMade10 c.Shape).Kind), lst 7 TEdge.c ((FMade10 c.Shape).Edges), .i ((FMade10 c.Shape).R)]) (i - (0 + ((((FMade17 c.Board).1).Tracks).length))) j) 81)]⟩ .nil kr kr (.cons rfl (.cons au1 (.cons au1 (.cons rfl (.cons au1 (.cons au1 .nil)))))) <| ath_n ?_
       refine aw_cv (Cv.trans (cv_ce (⟨[(5, tB Fsanity25), (6, tP 6 0), (8, .av (.one (lst 1 (fun x => [.s x]) v8))), (13, tI v13), (17, tI ((FlenSpread ((FMade17 c.Board).1) (TMatch.mk (⟨#[]⟩) v9 0)).1)), (19, tP 19 0), (20, tP 20 0)], [(6, .cells (TBoard.c ((FMade17 c.Board).1)) 62), (19, .cells [.i (((FMade17 c.Board).1).Layers), .i ((((FMade17 c.Board).1).Outline).Kind), lst 7 TEdge.c ((((FMade17 c.Board).1).Outline).Edges), .i ((((FMade17 c.Board).1).Outline).R), lst 7 TPlaced.c (((FMade17 c.Board).1).Parts), lst 2 TNet.c (((FMade17 c.Board).1).Nets), .own 115 6 (((((FMade17 c.Board).1).Tracks) ++ [TTrack.mk 9999 (({ data := #[71, 78, 68] } : ByteArray)) 1 (FMade10 c.Shape)]).length), lst 8 TVia.c (((FMade17 c.Board).1).Vias), lst 8 TPour.c (((FMade17 c.Board).1).Pours), lst 5 TKeep.c (((FMade17 c.Board).1).Keeps), lst 4 TSlot.c (((FMade17 c.Board).1).Slots), lst 2 TClass.c (((FMade17 c.Board).1).Classes), lst 20 TRule.c (((FMade17 c.Board).1).Rules), lst 3 TWaiver.c (((FMade17 c.Board).1).Waivers), lst 3 TMatch.c (((FMade17 c.Board).1).Matches)] 62), (20, .cells (TShape.c (FMade10 c.Shape)) 36), (115, .row 6 (((((FMade17 c.Board).1).Tracks) ++ [TTrack.mk 9999 (({ data := #[71, 78, 68] } : ByteArray)) 1 (FMade10 c.Shape)]).length) (rowF TTrack.c ((((FMade17 c.Board).1).Tracks) ++ [TTrack.mk 9999 (({ data := #[71, 78, 68] } : ByteArray)) 1 (FMade10 c.Shape)])) 81)]⟩) lr (.cons ⟨rfl, .refl _⟩ (.cons ⟨rfl, .cells _ (.cons (.refl _) (.cons (.refl _) (.cons (.refl _) (.cons (.refl _) (.cons (.refl _) (.cons (.refl _) (.cons (.own _ _ au2) (.cons (.refl _) (.cons (.refl _) (.cons (.refl _) (.cons (.refl _) (.cons (.refl _) (.cons (.refl _) (.cons (.refl _) (.cons (.refl _) .nil)))))))))))))))⟩ (.cons ⟨rfl, .refl _⟩ (.cons ⟨rfl, bke_told 81 (told_app (told_app (told_lit (c := TTrack.c) (xs := (([] : List TTrack) : List TTrack)) rfl kr) (told_rfl 6 TTrack.c (((FMade17 c.Board).1).Tracks))) (told_lit (c := TTrack.c) (xs := ([TTrack.mk 9999 (({ data := #[71, 78, 68] } : ByteArray)) 1 (FMade10 c.Shape)] : List TTrack)) rfl kr))⟩ .nil))))) (Cv.refl _)) <| aw_seq <| aw_seq ?_
       refine aw_region eqok [] [] [] [5, 6, 13, 17, 19, 20, 117, 118, 119] [6, 19, 20, 115] [] ⟨[(5, tB Fsanity25), (6, tP 6 0), (13, tI v13), (17, tI ((FlenSpread ((FMade17 c.Board).1) (TMatch.mk (⟨#[]⟩) v9 0)).1)), (19, tP 19 0), (20, tP 20 0), (117, .av (.one (lst 1 (fun x => [.s x]) v8))), (118, tI ((v8.length : Int))), (119, tI 0)], [(6, .cells (TBoard.c ((FMade17 c.Board).1)) 62), (19, .cells [.i (((FMade17 c.Board).1).Layers), .i ((((FMade17 c.Board).1).Outline).Kind), lst 7 TEdge.c ((((FMade17 c.Board).1).Outline).Edges), .i ((((FMade17 c.Board).1).Outline).R), lst 7 TPlaced.c (((FMade17 c.Board).1).Parts), lst 2 TNet.c (((FMade17 c.Board).1).Nets), .own 115 6 (((((FMade17 c.Board).1).Tracks) ++ [TTrack.mk 9999 (({ data := #[71, 78, 68] } : ByteArray)) 1 (FMade10 c.Shape)]).length), lst 8 TVia.c (((FMade17 c.Board).1).Vias), lst 8 TPour.c (((FMade17 c.Board).1).Pours), lst 5 TKeep.c (((FMade17 c.Board).1).Keeps), lst 4 TSlot.c (((FMade17 c.Board).1).Slots), lst 2 TClass.c (((FMade17 c.Board).1).Classes), lst 20 TRule.c (((FMade17 c.Board).1).Rules), lst 3 TWaiver.c (((FMade17 c.Board).1).Waivers), lst 3 TMatch.c (((FMade17 c.Board).1).Matches)] 62), (20, .cells (TShape.c (FMade10 c.Shape)) 36), (115, .row 6 (((((FMade17 c.Board).1).Tracks) ++ [TTrack.mk 9999 (({ data := #[71, 78, 68] } : ByteArray)) 1 (FMade10 c.Shape)]).length) (rowF TTrack.c ((((FMade17 c.Board).1).Tracks) ++ [TTrack.mk 9999 (({ data := #[71, 78, 68] } : ByteArray)) 1 (FMade10 c.Shape)])) 81)]⟩ .nil kr .nil <| ath_n <| aw_block ?_
       refine aw_cv (Cv.trans (cv_fz (⟨[(5, tB Fsanity25), (6, tP 6 0), (13, tI v13), (17, tI ((FlenSpread ((FMade17 c.Board).1) (TMatch.mk (⟨#[]⟩) v9 0)).1)), (19, tP 19 0), (20, tP 20 0), (117, .av (.one (lst 1 (fun x => [.s x]) v8))), (118, tI ((v8.length : Int))), (119, tI 0)], [(6, .cells (TBoard.c ((FMade17 c.Board).1)) 62), (19, .cells [.i (((FMade17 c.Board).1).Layers), .i ((((FMade17 c.Board).1).Outline).Kind), lst 7 TEdge.c ((((FMade17 c.Board).1).Outline).Edges), .i ((((FMade17 c.Board).1).Outline).R), lst 7 TPlaced.c (((FMade17 c.Board).1).Parts), lst 2 TNet.c (((FMade17 c.Board).1).Nets), lst 6 TTrack.c ((((FMade17 c.Board).1).Tracks) ++ [TTrack.mk 9999 (({ data := #[71, 78, 68] } : ByteArray)) 1 (FMade10 c.Shape)]), lst 8 TVia.c (((FMade17 c.Board).1).Vias), lst 8 TPour.c (((FMade17 c.Board).1).Pours), lst 5 TKeep.c (((FMade17 c.Board).1).Keeps), lst 4 TSlot.c (((FMade17 c.Board).1).Slots), lst 2 TClass.c (((FMade17 c.Board).1).Classes), lst 20 TRule.c (((FMade17 c.Board).1).Rules), lst 3 TWaiver.c (((FMade17 c.Board).1).Waivers), lst 3 TMatch.c (((FMade17 c.Board).1).Matches)] 62), (20, .cells (TShape.c (FMade10 c.Shape)) 36)]⟩) 115 6 (((((FMade17 c.Board).1).Tracks) ++ [TTrack.mk 9999 (({ data := #[71, 78, 68] } : ByteArray)) 1 (FMade10 c.Shape)]).length) (rowF TTrack.c ((((FMade17 c.Board).1).Tracks) ++ [TTrack.mk 9999 (({ data := #[71, 78, 68] } : ByteArray)) 1 (FMade10 c.Shape)])) 81 (K := []) (fun k x h => by cases h) kr kr (.cons ⟨rfl, rfl⟩ .nil) kr) (Cv.refl _)) ?_
       refine aw_loopC (ι := Nat × Int) (fun x => ⟨[(5, tB Fsanity25), (6, tP 6 0), (13, tI v13), (17, tI ((FlenSpread ((FMade17 c.Board).1) (TMatch.mk (⟨#[]⟩) v9 0)).1)), (19, tP 19 0), (20, tP 20 0), (117, .av (.one (lst 1 (fun x => [.s x]) v8))), (118, tI ((v8.length : Int))), (119, tI x.2)], [(6, .cells (TBoard.c ((FMade17 c.Board).1)) 62), (19, .cells [.i (((FMade17 c.Board).1).Layers), .i ((((FMade17 c.Board).1).Outline).Kind), lst 7 TEdge.c ((((FMade17 c.Board).1).Outline).Edges), .i ((((FMade17 c.Board).1).Outline).R), lst 7 TPlaced.c (((FMade17 c.Board).1).Parts), lst 2 TNet.c (((FMade17 c.Board).1).Nets), lst 6 TTrack.c ((((FMade17 c.Board).1).Tracks) ++ [TTrack.mk 9999 (({ data := #[71, 78, 68] } : ByteArray)) 1 (FMade10 c.Shape)]), lst 8 TVia.c (((FMade17 c.Board).1).Vias), lst 8 TPour.c (((FMade17 c.Board).1).Pours), lst 5 TKeep.c (((FMade17 c.Board).1).Keeps), lst 4 TSlot.c (((FMade17 c.Board).1).Slots), lst 2 TClass.c (((FMade17 c.Board).1).Classes), lst 20 TRule.c (((FMade17 c.Board).1).Rules), lst 3 TWaiver.c (((FMade17 c.Board).1).Waivers), lst 3 TMatch.c (((FMade17 c.Board).1).Matches)] 62), (20, .cells (TShape.c (FMade10 c.Shape)) 36)]⟩) (fun x => ((((v8.length : Int))) - x.2).toNat < x.1 /\ (0 <= x.2 /\ (x.2 <= ((v8.length : Int)) \/ x.2 = 0)) /\ FLengthSpread_l3 c names v8 v41 v9 v12 v13 v67 (FLengthSpread_l0 c names n0) (FLengthSpread_l1 c names v8 v41 (FLengthSpread_l0 c names n0) n1) (FLengthSpread_l2 c names v8 v41 v9 v12 (FLengthSpread_l0 c names n0) (FLengthSpread_l1 c names v8 v41 (FLengthSpread_l0 c names n0) n1) n2) x.1 x.2 = FLengthSpread c names) (fun x => x.1) ?_ (((((v8.length : Int))) - 0).toNat + 1, 0) ⟨Nat.lt_succ_self _, ⟨(by show 0 <= 0; first | trivial | omega | exact at0 | exact at1 | exact at2 | (simp; omega) | simp), (by show (0 <= ((v8.length : Int)) \/ 0 = 0); first | trivial | omega | exact at0 | exact at1 | exact at2 | (simp; omega) | simp)⟩, (by rw [<- hF2]; simp only [FLengthSpread_l2, h3, cond_true, cond_false])⟩
       rintro ⟨n3, v119⟩ ⟨hn, hinv, hF⟩
       have hm3 : ((((v8.length : Int))) - v119).toNat < n3 := hn; have hinv3 : 0 <= v119 /\ (v119 <= ((v8.length : Int)) \/ v119 = 0) := hinv; have hF3 : FLengthSpread_l3 c names v8 v41 v9 v12 v13 v67 (FLengthSpread_l0 c names n0) (FLengthSpread_l1 c names v8 v41 (FLengthSpread_l0 c names n0) n1) (FLengthSpread_l2 c names v8 v41 v9 v12 (FLengthSpread_l0 c names n0) (FLengthSpread_l1 c names v8 v41 (FLengthSpread_l0 c names n0) n1) n2) n3 v119 = FLengthSpread c names := hF; clear hn hinv hF
       cases n3 with
       | zero => exact absurd hm3 (Nat.not_lt_zero _)
       | succ n3 =>
        refine aw_seq ?_
        refine aw_region eqok [] [] [] [5, 6, 13, 17, 19, 20, 117, 118, 119, 120] [6, 19, 20] [] ⟨[(5, tB Fsanity25), (6, tP 6 0), (13, tI v13), (17, tI ((FlenSpread ((FMade17 c.Board).1) (TMatch.mk (⟨#[]⟩) v9 0)).1)), (19, tP 19 0), (20, tP 20 0), (117, .av (.one (lst 1 (fun x => [.s x]) v8))), (118, tI ((v8.length : Int))), (119, tI v119), (120, tB (decide ((v119 : Int) < ((v8.length : Int)))))], [(6, .cells (TBoard.c ((FMade17 c.Board).1)) 62), (19, .cells [.i (((FMade17 c.Board).1).Layers), .i ((((FMade17 c.Board).1).Outline).Kind), lst 7 TEdge.c ((((FMade17 c.Board).1).Outline).Edges), .i ((((FMade17 c.Board).1).Outline).R), lst 7 TPlaced.c (((FMade17 c.Board).1).Parts), lst 2 TNet.c (((FMade17 c.Board).1).Nets), lst 6 TTrack.c ((((FMade17 c.Board).1).Tracks) ++ [TTrack.mk 9999 (({ data := #[71, 78, 68] } : ByteArray)) 1 (FMade10 c.Shape)]), lst 8 TVia.c (((FMade17 c.Board).1).Vias), lst 8 TPour.c (((FMade17 c.Board).1).Pours), lst 5 TKeep.c (((FMade17 c.Board).1).Keeps), lst 4 TSlot.c (((FMade17 c.Board).1).Slots), lst 2 TClass.c (((FMade17 c.Board).1).Classes), lst 20 TRule.c (((FMade17 c.Board).1).Rules), lst 3 TWaiver.c (((FMade17 c.Board).1).Waivers), lst 3 TMatch.c (((FMade17 c.Board).1).Matches)] 62), (20, .cells (TShape.c (FMade10 c.Shape)) 36)]⟩ .nil kr .nil <| ath_n <| aw_seq ?_
        refine aw_cond (decide ((v119 : Int) < ((v8.length : Int)))) kr (fun h4 => ?_) (fun h4 => ?_)
        ·have g4 := of_decide_eq_true h4
         refine aw_skip <| ath_n ?_
         refine aw_seq <| aw_block <| aw_seq ?_
         refine aw_region eqok [] [] [] [5, 6, 13, 17, 19, 20, 22, 117, 118, 119] [6, 19, 20] [0 <= (v119 : Int) /\ (v119 : Int) < ((v8.length : Nat) : Int)] ⟨[(5, tB Fsanity25), (6, tP 6 0), (13, tI v13), (17, tI ((FlenSpread ((FMade17 c.Board).1) (TMatch.mk (⟨#[]⟩) v9 0)).1)), (19, tP 19 0), (20, tP 20 0), (22, .av (.one (.s (v8.getD v119.toNat default)))), (117, .av (.one (lst 1 (fun x => [.s x]) v8))), (118, tI ((v8.length : Int))), (119, tI v119)], [(6, .cells (TBoard.c ((FMade17 c.Board).1)) 62), (19, .cells [.i (((FMade17 c.Board).1).Layers), .i ((((FMade17 c.Board).1).Outline).Kind), lst 7 TEdge.c ((((FMade17 c.Board).1).Outline).Edges), .i ((((FMade17 c.Board).1).Outline).R), lst 7 TPlaced.c (((FMade17 c.Board).1).Parts), lst 2 TNet.c (((FMade17 c.Board).1).Nets), lst 6 TTrack.c ((((FMade17 c.Board).1).Tracks) ++ [TTrack.mk 9999 (({ data := #[71, 78, 68] } : ByteArray)) 1 (FMade10 c.Shape)]), lst 8 TVia.c (((FMade17 c.Board).1).Vias), lst 8 TPour.c (((FMade17 c.Board).1).Pours), lst 5 TKeep.c (((FMade17 c.Board).1).Keeps), lst 4 TSlot.c (((FMade17 c.Board).1).Slots), lst 2 TClass.c (((FMade17 c.Board).1).Classes), lst 20 TRule.c (((FMade17 c.Board).1).Rules), lst 3 TWaiver.c (((FMade17 c.Board).1).Waivers), lst 3 TMatch.c (((FMade17 c.Board).1).Matches)] 62), (20, .cells (TShape.c (FMade10 c.Shape)) 36)]⟩ .nil kr (.cons au6 .nil) <| ath_n <| aw_seq ?_
         refine aw_region eqok [] [] [] [5, 6, 13, 17, 19, 20, 22, 23, 117, 118, 119] [6, 19, 20] [] ⟨[(5, tB Fsanity25), (6, tP 6 0), (13, tI v13), (17, tI ((FlenSpread ((FMade17 c.Board).1) (TMatch.mk (⟨#[]⟩) v9 0)).1)), (19, tP 19 0), (20, tP 20 0), (22, .av (.one (.s (v8.getD v119.toNat default)))), (23, tI 0), (117, .av (.one (lst 1 (fun x => [.s x]) v8))), (118, tI ((v8.length : Int))), (119, tI v119)], [(6, .cells (TBoard.c ((FMade17 c.Board).1)) 62), (19, .cells [.i (((FMade17 c.Board).1).Layers), .i ((((FMade17 c.Board).1).Outline).Kind), lst 7 TEdge.c ((((FMade17 c.Board).1).Outline).Edges), .i ((((FMade17 c.Board).1).Outline).R), lst 7 TPlaced.c (((FMade17 c.Board).1).Parts), lst 2 TNet.c (((FMade17 c.Board).1).Nets), lst 6 TTrack.c ((((FMade17 c.Board).1).Tracks) ++ [TTrack.mk 9999 (({ data := #[71, 78, 68] } : ByteArray)) 1 (FMade10 c.Shape)]), lst 8 TVia.c (((FMade17 c.Board).1).Vias), lst 8 TPour.c (((FMade17 c.Board).1).Pours), lst 5 TKeep.c (((FMade17 c.Board).1).Keeps), lst 4 TSlot.c (((FMade17 c.Board).1).Slots), lst 2 TClass.c (((FMade17 c.Board).1).Classes), lst 20 TRule.c (((FMade17 c.Board).1).Rules), lst 3 TWaiver.c (((FMade17 c.Board).1).Waivers), lst 3 TMatch.c (((FMade17 c.Board).1).Matches)] 62), (20, .cells (TShape.c (FMade10 c.Shape)) 36)]⟩ .nil kr .nil <| ath_n ?_
         refine aw_seq <| aw_seq ?_
         refine aw_region eqok [] [] [] [5, 6, 13, 17, 19, 20, 22, 23, 117, 118, 119, 124] [6, 19, 20] [] ⟨[(5, tB Fsanity25), (6, tP 6 0), (13, tI v13), (17, tI ((FlenSpread ((FMade17 c.Board).1) (TMatch.mk (⟨#[]⟩) v9 0)).1)), (19, tP 19 0), (20, tP 20 0), (22, .av (.one (.s (v8.getD v119.toNat default)))), (23, tI 0), (117, .av (.one (lst 1 (fun x => [.s x]) v8))), (118, tI ((v8.length : Int))), (119, tI v119), (124, tB (Z7k v8 v119))], [(6, .cells (TBoard.c ((FMade17 c.Board).1)) 62), (19, .cells [.i (((FMade17 c.Board).1).Layers), .i ((((FMade17 c.Board).1).Outline).Kind), lst 7 TEdge.c ((((FMade17 c.Board).1).Outline).Edges), .i ((((FMade17 c.Board).1).Outline).R), lst 7 TPlaced.c (((FMade17 c.Board).1).Parts), lst 2 TNet.c (((FMade17 c.Board).1).Nets), lst 6 TTrack.c ((((FMade17 c.Board).1).Tracks) ++ [TTrack.mk 9999 (({ data := #[71, 78, 68] } : ByteArray)) 1 (FMade10 c.Shape)]), lst 8 TVia.c (((FMade17 c.Board).1).Vias), lst 8 TPour.c (((FMade17 c.Board).1).Pours), lst 5 TKeep.c (((FMade17 c.Board).1).Keeps), lst 4 TSlot.c (((FMade17 c.Board).1).Slots), lst 2 TClass.c (((FMade17 c.Board).1).Classes), lst 20 TRule.c (((FMade17 c.Board).1).Rules), lst 3 TWaiver.c (((FMade17 c.Board).1).Waivers), lst 3 TMatch.c (((FMade17 c.Board).1).Matches)] 62), (20, .cells (TShape.c (FMade10 c.Shape)) 36)]⟩ .nil kr .nil <| ath_n ?_
         refine aw_joinC (⟨[(5, tB Fsanity25), (6, tP 6 0), (13, tI v13), (17, tI ((FlenSpread ((FMade17 c.Board).1) (TMatch.mk (⟨#[]⟩) v9 0)).1)), (19, tP 19 0), (20, tP 20 0), (22, .av (.one (.s (v8.getD v119.toNat default)))), (23, tI (bif Z7k v8 v119 then (FlenShape (FMade10 c.Shape)) else 0)), (117, .av (.one (lst 1 (fun x => [.s x]) v8))), (118, tI ((v8.length : Int))), (119, tI v119)], [(6, .cells (TBoard.c ((FMade17 c.Board).1)) 62), (19, .cells [.i (((FMade17 c.Board).1).Layers), .i ((((FMade17 c.Board).1).Outline).Kind), lst 7 TEdge.c ((((FMade17 c.Board).1).Outline).Edges), .i ((((FMade17 c.Board).1).Outline).R), lst 7 TPlaced.c (((FMade17 c.Board).1).Parts), lst 2 TNet.c (((FMade17 c.Board).1).Nets), lst 6 TTrack.c ((((FMade17 c.Board).1).Tracks) ++ [TTrack.mk 9999 (({ data := #[71, 78, 68] } : ByteArray)) 1 (FMade10 c.Shape)]), lst 8 TVia.c (((FMade17 c.Board).1).Vias), lst 8 TPour.c (((FMade17 c.Board).1).Pours), lst 5 TKeep.c (((FMade17 c.Board).1).Keeps), lst 4 TSlot.c (((FMade17 c.Board).1).Slots), lst 2 TClass.c (((FMade17 c.Board).1).Classes), lst 20 TRule.c (((FMade17 c.Board).1).Rules), lst 3 TWaiver.c (((FMade17 c.Board).1).Waivers), lst 3 TMatch.c (((FMade17 c.Board).1).Matches)] 62), (20, .cells (TShape.c (FMade10 c.Shape)) 36)]⟩) ?_ ?_
         ·refine aw_cond (Z7k v8 v119) kr (fun h5 => ?_) (fun h5 => ?_)
          ·refine aw_region eqok [] [] [(126, clenShape (FMade10 c.Shape))] [5, 6, 13, 17, 19, 20, 22, 23, 117, 118, 119] [6, 19, 20] [Same (clenShape (FMade10 c.Shape)).2.1] ⟨[(5, tB Fsanity25), (6, tP 6 0), (13, tI v13), (17, tI ((FlenSpread ((FMade17 c.Board).1) (TMatch.mk (⟨#[]⟩) v9 0)).1)), (19, tP 19 0), (20, tP 20 0), (22, .av (.one (.s (v8.getD v119.toNat default)))), (23, tI (FlenShape (FMade10 c.Shape))), (117, .av (.one (lst 1 (fun x => [.s x]) v8))), (118, tI ((v8.length : Int))), (119, tI v119)], [(6, .cells (TBoard.c ((FMade17 c.Board).1)) 62), (19, .cells [.i (((FMade17 c.Board).1).Layers), .i ((((FMade17 c.Board).1).Outline).Kind), lst 7 TEdge.c ((((FMade17 c.Board).1).Outline).Edges), .i ((((FMade17 c.Board).1).Outline).R), lst 7 TPlaced.c (((FMade17 c.Board).1).Parts), lst 2 TNet.c (((FMade17 c.Board).1).Nets), lst 6 TTrack.c ((((FMade17 c.Board).1).Tracks) ++ [TTrack.mk 9999 (({ data := #[71, 78, 68] } : ByteArray)) 1 (FMade10 c.Shape)]), lst 8 TVia.c (((FMade17 c.Board).1).Vias), lst 8 TPour.c (((FMade17 c.Board).1).Pours), lst 5 TKeep.c (((FMade17 c.Board).1).Keeps), lst 4 TSlot.c (((FMade17 c.Board).1).Slots), lst 2 TClass.c (((FMade17 c.Board).1).Classes), lst 20 TRule.c (((FMade17 c.Board).1).Rules), lst 3 TWaiver.c (((FMade17 c.Board).1).Waivers), lst 3 TMatch.c (((FMade17 c.Board).1).Matches)] 62), (20, .cells (TShape.c (FMade10 c.Shape)) 36)]⟩ (.cons (oklenShape (FMade10 c.Shape) au14) .nil) kr (.cons rfl .nil) <| ath_n ?_
           refine cv_eq ?_
           first | rfl | (simp only [h5, cond_true, cond_false] <;> rfl)
          ·refine aw_skip <| ath_n ?_
           refine Cv.trans (cv_keep [5, 6, 13, 17, 19, 20, 22, 23, 117, 118, 119] [6, 19, 20] (⟨[(5, tB Fsanity25), (6, tP 6 0), (13, tI v13), (17, tI ((FlenSpread ((FMade17 c.Board).1) (TMatch.mk (⟨#[]⟩) v9 0)).1)), (19, tP 19 0), (20, tP 20 0), (22, .av (.one (.s (v8.getD v119.toNat default)))), (23, tI 0), (117, .av (.one (lst 1 (fun x => [.s x]) v8))), (118, tI ((v8.length : Int))), (119, tI v119)], [(6, .cells (TBoard.c ((FMade17 c.Board).1)) 62), (19, .cells [.i (((FMade17 c.Board).1).Layers), .i ((((FMade17 c.Board).1).Outline).Kind), lst 7 TEdge.c ((((FMade17 c.Board).1).Outline).Edges), .i ((((FMade17 c.Board).1).Outline).R), lst 7 TPlaced.c (((FMade17 c.Board).1).Parts), lst 2 TNet.c (((FMade17 c.Board).1).Nets), lst 6 TTrack.c ((((FMade17 c.Board).1).Tracks) ++ [TTrack.mk 9999 (({ data := #[71, 78, 68] } : ByteArray)) 1 (FMade10 c.Shape)]), lst 8 TVia.c (((FMade17 c.Board).1).Vias), lst 8 TPour.c (((FMade17 c.Board).1).Pours), lst 5 TKeep.c (((FMade17 c.Board).1).Keeps), lst 4 TSlot.c (((FMade17 c.Board).1).Slots), lst 2 TClass.c (((FMade17 c.Board).1).Classes), lst 20 TRule.c (((FMade17 c.Board).1).Rules), lst 3 TWaiver.c (((FMade17 c.Board).1).Waivers), lst 3 TMatch.c (((FMade17 c.Board).1).Matches)] 62), (20, .cells (TShape.c (FMade10 c.Shape)) 36)]⟩) kr) (cv_eq ?_)
           first | rfl | (simp only [h5, cond_true, cond_false] <;> rfl)
         refine aw_seq ?_
         refine aw_draw mixed eqok [] [] [(129, clenNet (TBoard.mk (((FMade17 c.Board).1).Layers) (((FMade17 c.Board).1).Outline) (((FMade17 c.Board).1).Parts) (((FMade17 c.Board).1).Nets) ((((FMade17 c.Board).1).Tracks) ++ [TTrack.mk 9999 (({ data := #[71, 78, 68] } : ByteArray)) 1 (FMade10 c.Shape)]) (((FMade17 c.Board).1).Vias) (((FMade17 c.Board).1).Pours) (((FMade17 c.Board).1).Keeps) (((FMade17 c.Board).1).Slots) (((FMade17 c.Board).1).Classes) (((FMade17 c.Board).1).Rules) (((FMade17 c.Board).1).Waivers) (((FMade17 c.Board).1).Matches)) (v8.getD v119.toNat default)), (132, clenNet ((FMade17 c.Board).1) (v8.getD v119.toNat default))] [5, 6, 13, 17, 19, 20, 117, 118, 119, 135] [6, 19, 20] [Same (clenNet (TBoard.mk (((FMade17 c.Board).1).Layers) (((FMade17 c.Board).1).Outline) (((FMade17 c.Board).1).Parts) (((FMade17 c.Board).1).Nets) ((((FMade17 c.Board).1).Tracks) ++ [TTrack.mk 9999 (({ data := #[71, 78, 68] } : ByteArray)) 1 (FMade10 c.Shape)]) (((FMade17 c.Board).1).Vias) (((FMade17 c.Board).1).Pours) (((FMade17 c.Board).1).Keeps) (((FMade17 c.Board).1).Slots) (((FMade17 c.Board).1).Classes) (((FMade17 c.Board).1).Rules) (((FMade17 c.Board).1).Waivers) (((FMade17 c.Board).1).Matches)) (v8.getD v119.toNat default)).2.1, Same (clenNet ((FMade17 c.Board).1) (v8.getD v119.toNat default)).2.1] ⟨[(5, tB Fsanity25), (6, tP 6 0), (13, tI v13), (17, tI ((FlenSpread ((FMade17 c.Board).1) (TMatch.mk (⟨#[]⟩) v9 0)).1)), (19, tP 19 0), (20, tP 20 0), (117, .av (.one (lst 1 (fun x => [.s x]) v8))), (118, tI ((v8.length : Int))), (119, tI v119), (135, tB (!decide (((FlenNet (TBoard.mk (((FMade17 c.Board).1).Layers) (((FMade17 c.Board).1).Outline) (((FMade17 c.Board).1).Parts) (((FMade17 c.Board).1).Nets) ((((FMade17 c.Board).1).Tracks) ++ [TTrack.mk 9999 (({ data := #[71, 78, 68] } : ByteArray)) 1 (FMade10 c.Shape)]) (((FMade17 c.Board).1).Vias) (((FMade17 c.Board).1).Pours) (((FMade17 c.Board).1).Keeps) (((FMade17 c.Board).1).Slots) (((FMade17 c.Board).1).Classes) (((FMade17 c.Board).1).Rules) (((FMade17 c.Board).1).Waivers) (((FMade17 c.Board).1).Matches)) (v8.getD v119.toNat default)) : Int) = (W64 ((FlenNet ((FMade17 c.Board).1) (v8.getD v119.toNat default)) + (bif Z7k v8 v119 then (FlenShape (FMade10 c.Shape)) else 0))))))], [(6, .cells (TBoard.c ((FMade17 c.Board).1)) 62), (19, .cells [.i (((FMade17 c.Board).1).Layers), .i ((((FMade17 c.Board).1).Outline).Kind), lst 7 TEdge.c ((((FMade17 c.Board).1).Outline).Edges), .i ((((FMade17 c.Board).1).Outline).R), lst 7 TPlaced.c (((FMade17 c.Board).1).Parts), lst 2 TNet.c (((FMade17 c.Board).1).Nets), lst 6 TTrack.c ((((FMade17 c.Board).1).Tracks) ++ [TTrack.mk 9999 (({ data := #[71, 78, 68] } : ByteArray)) 1 (FMade10 c.Shape)]), lst 8 TVia.c (((FMade17 c.Board).1).Vias), lst 8 TPour.c (((FMade17 c.Board).1).Pours), lst 5 TKeep.c (((FMade17 c.Board).1).Keeps), lst 4 TSlot.c (((FMade17 c.Board).1).Slots), lst 2 TClass.c (((FMade17 c.Board).1).Classes), lst 20 TRule.c (((FMade17 c.Board).1).Rules), lst 3 TWaiver.c (((FMade17 c.Board).1).Waivers), lst 3 TMatch.c (((FMade17 c.Board).1).Matches)] 62), (20, .cells (TShape.c (FMade10 c.Shape)) 36)]⟩ (.cons (oklenNet (TBoard.mk (((FMade17 c.Board).1).Layers) (((FMade17 c.Board).1).Outline) (((FMade17 c.Board).1).Parts) (((FMade17 c.Board).1).Nets) ((((FMade17 c.Board).1).Tracks) ++ [TTrack.mk 9999 (({ data := #[71, 78, 68] } : ByteArray)) 1 (FMade10 c.Shape)]) (((FMade17 c.Board).1).Vias) (((FMade17 c.Board).1).Pours) (((FMade17 c.Board).1).Keeps) (((FMade17 c.Board).1).Slots) (((FMade17 c.Board).1).Classes) (((FMade17 c.Board).1).Rules) (((FMade17 c.Board).1).Waivers) (((FMade17 c.Board).1).Matches)) (v8.getD v119.toNat default) au14 au14) (.cons (oklenNet ((FMade17 c.Board).1) (v8.getD v119.toNat default) au14 au14) .nil)) kr kr (.cons rfl (.cons rfl .nil)) <| ath_n ?_
         refine aw_cond (!decide (((FlenNet (TBoard.mk (((FMade17 c.Board).1).Layers) (((FMade17 c.Board).1).Outline) (((FMade17 c.Board).1).Parts) (((FMade17 c.Board).1).Nets) ((((FMade17 c.Board).1).Tracks) ++ [TTrack.mk 9999 (({ data := #[71, 78, 68] } : ByteArray)) 1 (FMade10 c.Shape)]) (((FMade17 c.Board).1).Vias) (((FMade17 c.Board).1).Pours) (((FMade17 c.Board).1).Keeps) (((FMade17 c.Board).1).Slots) (((FMade17 c.Board).1).Classes) (((FMade17 c.Board).1).Rules) (((FMade17 c.Board).1).Waivers) (((FMade17 c.Board).1).Matches)) (v8.getD v119.toNat default)) : Int) = (W64 ((FlenNet ((FMade17 c.Board).1) (v8.getD v119.toNat default)) + (bif Z7k v8 v119 then (FlenShape (FMade10 c.Shape)) else 0))))) kr (fun h5 => ?_) (fun h5 => ?_)
         ·have g5 := of_not_decide_true h5
          refine aw_seq ?_
          refine aw_region eqok [] [] [] [4] [] [] ⟨[(4, tB false)], []⟩ .nil kr .nil <| ath_n ?_
          refine aw_ret <| abl_r ?_
          refine ath_r <| ath_r ?_
          refine abl_r <| ath_r ?_
          exact ⟨_, Cv.refl _, .inl rfl, .av (.one (.b false)), by kernel_rfl, tve_eq (by rw [<- hF3]; first | (simp only [FLengthSpread_l3, h4, h5, cond_true, cond_false] <;> rfl))⟩
         ·have g5 := of_not_decide_false h5
          refine aw_skip <| abl_n <| ath_n ?_
          refine aw_region eqok [] [] [] [5, 6, 13, 17, 19, 20, 117, 118, 119] [6, 19, 20] [] ⟨[(5, tB Fsanity25), (6, tP 6 0), (13, tI v13), (17, tI ((FlenSpread ((FMade17 c.Board).1) (TMatch.mk (⟨#[]⟩) v9 0)).1)), (19, tP 19 0), (20, tP 20 0), (117, .av (.one (lst 1 (fun x => [.s x]) v8))), (118, tI ((v8.length : Int))), (119, tI (W64 (v119 + 1)))], [(6, .cells (TBoard.c ((FMade17 c.Board).1)) 62), (19, .cells [.i (((FMade17 c.Board).1).Layers), .i ((((FMade17 c.Board).1).Outline).Kind), lst 7 TEdge.c ((((FMade17 c.Board).1).Outline).Edges), .i ((((FMade17 c.Board).1).Outline).R), lst 7 TPlaced.c (((FMade17 c.Board).1).Parts), lst 2 TNet.c (((FMade17 c.Board).1).Nets), lst 6 TTrack.c ((((FMade17 c.Board).1).Tracks) ++ [TTrack.mk 9999 (({ data := #[71, 78, 68] } : ByteArray)) 1 (FMade10 c.Shape)]), lst 8 TVia.c (((FMade17 c.Board).1).Vias), lst 8 TPour.c (((FMade17 c.Board).1).Pours), lst 5 TKeep.c (((FMade17 c.Board).1).Keeps), lst 4 TSlot.c (((FMade17 c.Board).1).Slots), lst 2 TClass.c (((FMade17 c.Board).1).Classes), lst 20 TRule.c (((FMade17 c.Board).1).Rules), lst 3 TWaiver.c (((FMade17 c.Board).1).Waivers), lst 3 TMatch.c (((FMade17 c.Board).1).Matches)] 62), (20, .cells (TShape.c (FMade10 c.Shape)) 36)]⟩ .nil kr .nil ?_
          (try rw [(show W64 (v119 + 1) = v119 + 1 from W64_id (by omega) au10)])
          refine ath_n ?_
          refine ⟨(n3, v119 + 1), ⟨?_, ?_, (by rw [<- hF3]; simp only [FLengthSpread_l3, h4, h5, cond_true, cond_false])⟩, Nat.lt_succ_self _, cv_eq kr⟩
          ·show ((((v8.length : Int))) - (v119 + 1)).toNat < n3; omega
          ·exact ⟨(by show 0 <= (v119 + 1); first | trivial | omega | exact at0 | exact at1 | exact at2 | (simp; omega) | simp), (by show ((v119 + 1) <= ((v8.length : Int)) \/ (v119 + 1) = 0); first | trivial | omega | exact at0 | exact at1 | exact at2 | (simp; omega) | simp)⟩
        ·have g4 := of_decide_eq_false h4
         refine aw_exit <| ath_e ?_
         refine ath_e <| abl_hit ?_
         refine ath_n <| aw_seq ?_
         refine aw_region eqok [] [] [] [4] [] [((Fsanity25) = true) -> ((Fsanity25) = true), ((Fsanity25) = true) -> ((Fsanity25) = true), (Fsanity25) = true -> ((Fsanity25) = true)] ⟨[(4, tB (bif Fsanity25 then decide ((((FlenSpread ((FMade17 c.Board).1) (TMatch.mk (⟨#[]⟩) v9 0)).1) : Int) = v13) else false))], []⟩ .nil kr (.cons id (.cons id (.cons id .nil))) <| ath_n <| aw_ret ?_
         exact ⟨_, Cv.refl _, .inl rfl, .av (.one (.b (bif Fsanity25 then decide ((((FlenSpread ((FMade17 c.Board).1) (TMatch.mk (⟨#[]⟩) v9 0)).1) : Int) = v13) else false))), by kernel_rfl, tve_eq (by rw [<- hF3]; first | (simp only [FLengthSpread_l3, h4, cond_true, cond_false] <;> rfl))⟩
end
section
open Go.RowKit
def IsR (n s : Int) : Prop := (0 <= s /\ s <= 3037000499) /\ s * s <= n /\ n < (s + 1) * (s + 1)
theorem sq_mono {a c : Int} (h0 : 0 <= a) (h : a <= c) : a * a <= c * c := Int.mul_le_mul h h h0 (by omega)
theorem top_sq {n s : Int} (hn : n <= 9223372036854775807) (hs : 3037000499 <= s) : n < (s + 1) * (s + 1) := by
 have := sq_mono (a := 3037000500) (c := s + 1) (by decide) (by omega)
 omega
theorem sq_w {s : Int} (h0 : 0 <= s) (h1 : s <= 3037000499) : W64 (s * s) = s * s := by
 have := sq_mono h0 h1
 have h2 := sq_mono (a := 0) (c := s) (by omega) h0
 exact W64_id (by omega) (by omega)
theorem len_l1 (n s0 : Int) (K0 : Int -> Int) (hn : n <= 9223372036854775807) : ∀ (f : Nat) (s : Int), 0 <= s -> s <= 3037000499 -> (3037000499 - s).toNat < f -> s * s <= n -> IsR n (FlenSqrt_l1 n s0 K0 f s)
 | 0, s, _, _, hf, _ => by omega
 | f + 1, s, h0, h1, hf, hs => by
  unfold FlenSqrt_l1
  by_cases hlt : s < 3037000499
  ·rw [decide_eq_true hlt]
   simp only [cond_true]
   rw [sq_w (s := s + 1) (by omega) (by omega)]
   by_cases hc : (s + 1) * (s + 1) <= n
   ·rw [decide_eq_true hc]
    exact len_l1 n s0 K0 hn f (s + 1) (by omega) (by omega) (by omega) hc
   ·rw [decide_eq_false hc]
    exact ⟨⟨h0, h1⟩, hs, by show n < (s + 1) * (s + 1); omega⟩
  ·rw [decide_eq_false hlt]
   simp only [cond_false]
   exact ⟨⟨h0, h1⟩, hs, top_sq hn (by omega)⟩
theorem len_l0 (n : Int) (hn : n <= 9223372036854775807) (h1 : 1 <= n) : ∀ (f : Nat) (s : Int), 0 <= s -> s <= 3037000499 -> s.toNat < f -> IsR n (FlenSqrt_l0 n f s)
 | 0, s, _, _, hf => by omega
 | f + 1, s, h0, h2, hf => by
  unfold FlenSqrt_l0
  rw [sq_w h0 h2]
  by_cases hc : n < s * s
  ·rw [decide_eq_true hc]
   have hne : s ≠ 0 := fun e => by rw [e] at hc; simp at hc; omega
   exact len_l0 n hn h1 f (s - 1) (by omega) (by omega) (by omega)
  ·rw [decide_eq_false hc]
   exact len_l1 n s _ hn _ s h0 h2 (by omega) (by omega)
theorem len_sqrt {n : Int} (hn : n <= 9223372036854775807) (h1 : 1 <= n) : IsR n (FlenSqrt n) := by
 unfold FlenSqrt
 rw [decide_eq_false (show ¬ n <= 0 by omega)]
 have h := sq_f2i h1 hn
 exact len_l0 n hn h1 _ _ (by unfold FmathSqrt; omega) (by omega) (by omega)
theorem len_sqrt0 {n : Int} (h : n <= 0) : FlenSqrt n = 0 := by
 unfold FlenSqrt
 rw [decide_eq_true h]
 rfl
end
section
open Go.RowKit
theorem sane25 : Fsanity25 = true := by decide +kernel
end
section
open Go.RowKit
theorem edge_rng (e : TEdge) : -40811380694047681 <= FlenEdge e /\ FlenEdge e <= 40811380694047681 := by
 unfold FlenEdge
 cases (!decide ((FCheck e : Int) = 0) : Bool) with
 | true => simp only [cond_true]; omega
 | false =>
  cases (!decide ((e.Kind : Int) = 1) : Bool) with
  | true =>
   simp only [cond_true, cond_false]
   have h1 := w64_rng (355 * FRadius e)
   generalize W64 (355 * FRadius e) = x at h1
   have h2 : -40811380694047681 <= Int.tdiv x 226 /\ Int.tdiv x 226 <= 40811380694047681 := by
    rcases Int.lt_or_le x 0 with hx | hx
    ·have e1 : Int.tdiv x 226 = -((-x) / 226) := by
      rw [<- Int.tdiv_eq_ediv_of_nonneg (by omega : 0 <= -x), Int.neg_tdiv, Int.neg_neg]
     omega
    ·rw [Int.tdiv_eq_ediv_of_nonneg hx]
     omega
   rw [W64_id (by omega) (by omega)]
   exact h2
  | false =>
   simp only [cond_false]
   rcases Int.lt_or_le (FvecDot (FvecSub e.B e.A) (FvecSub e.B e.A)) 1 with h | h
   ·rw [len_sqrt0 (by omega)]; omega
   ·have := (len_sqrt (dot_rng _ _).2 h).1
    omega
theorem sumE_rng (xs : List TEdge) : ∀ (n : Nat) (v k : Int), 0 <= k -> k <= (xs.length : Int) -> (xs.length : Int) <= 2 -> ((xs.length : Int) - k).toNat < n -> -40811380694047681 * k <= v -> v <= 40811380694047681 * k -> -81622761388095362 <= FsumE_l0 xs n v k /\ FsumE_l0 xs n v k <= 81622761388095362
 | 0, v, k, _, _, _, h, _, _ => absurd h (Nat.not_lt_zero _)
 | n + 1, v, k, h0, h1, h2, h3, h4, h5 => by
  unfold FsumE_l0
  by_cases hc : k < (xs.length : Int)
  ·simp only [hc, decide_true, cond_true]
   have he := edge_rng (xs.getD k.toNat default)
   rw [W64_id (by omega) (by omega)]
   exact sumE_rng xs n _ _ (by omega) (by omega) h2 (by omega) (by omega) (by omega)
  ·simp only [hc, decide_false, cond_false]
   omega
theorem shape_rng {s : TShape} (h : (s.Edges.length : Int) <= 2) : -81622761388095362 <= FlenShape s /\ FlenShape s <= 81622761388095362 := by
 unfold FlenShape
 cases (!decide ((FCheckS s : Int) = 0) : Bool) with
 | true => simp only [cond_true]; omega
 | false =>
  simp only [cond_false]
  unfold FsumE
  exact sumE_rng _ _ _ _ (by omega) (by omega) h (by omega) (by omega) (by omega)
theorem net1_rng {t : TTrack} {x : ByteArray} (h : (t.Shape.Edges.length : Int) <= 2) : -81622761388095362 <= Fnet1 t x /\ Fnet1 t x <= 81622761388095362 := by
 unfold Fnet1
 cases (!(t.Net.toList == x.toList) : Bool) with
 | true => simp only [cond_true]; omega
 | false => exact shape_rng h
theorem sumT_rng (xs : List TTrack) (x : ByteArray) (he : ∀ t ∈ xs, (t.Shape.Edges.length : Int) <= 2) : ∀ (n : Nat) (v k : Int), 0 <= k -> k <= (xs.length : Int) -> (xs.length : Int) <= 6 -> ((xs.length : Int) - k).toNat < n -> -81622761388095362 * k <= v -> v <= 81622761388095362 * k -> -500000000000000000 <= FsumT_l0 xs x n v k /\ FsumT_l0 xs x n v k <= 500000000000000000
 | 0, v, k, _, _, _, h, _, _ => absurd h (Nat.not_lt_zero _)
 | n + 1, v, k, h0, h1, h2, h3, h4, h5 => by
  unfold FsumT_l0
  by_cases hc : k < (xs.length : Int)
  ·simp only [hc, decide_true, cond_true]
   have hk : k.toNat < xs.length := by omega
   have hm : xs.getD k.toNat default ∈ xs := by rw [List.getD_eq_getElem?_getD, List.getElem?_eq_getElem hk]; exact List.getElem_mem hk
   have hr := net1_rng (x := x) (he _ hm)
   rw [W64_id (by omega) (by omega)]
   exact sumT_rng xs x he n _ _ (by omega) (by omega) h2 (by omega) (by omega) (by omega)
  ·simp only [hc, decide_false, cond_false]
   omega
theorem net_rng {B : TBoard} (h : MadeP B) (x : ByteArray) : -500000000000000000 <= FlenNet B x /\ FlenNet B x <= 500000000000000000 := by
 unfold FlenNet
 cases Z0k x with
 | true => simp only [cond_true]; omega
 | false =>
  simp only [cond_false]
  unfold FsumT
  exact sumT_rng _ _ h.edg _ _ _ (by omega) (by omega) h.trk (by omega) (by omega) (by omega)
theorem sumT_step (xs : List TTrack) (x : ByteArray) (n : Nat) (v k : Int) : FsumT_l0 xs x (n + 1) v k = bif decide (k < (xs.length : Int)) then FsumT_l0 xs x n (W64 (v + Fnet1 (xs.getD k.toNat default) x)) (k + 1) else v := rfl
theorem sumT_app (xs : List TTrack) (t : TTrack) (x : ByteArray) : ∀ (n : Nat) (v : Int) (k : Nat), k <= xs.length -> xs.length - k < n -> FsumT_l0 (xs ++ [t]) x (n + 1) v (k : Int) = W64 (FsumT_l0 xs x n v (k : Int) + Fnet1 t x)
 | 0, v, k, _, h => absurd h (Nat.not_lt_zero _)
 | n + 1, v, k, h0, h1 => by
  by_cases hc : k < xs.length
  ·rw [sumT_step (xs ++ [t]) x (n + 1), sumT_step xs x n]
   have c1 : (k : Int) < (((xs ++ [t]).length : Nat) : Int) := by simp only [List.length_append, List.length_cons, List.length_nil]; omega
   have c2 : (k : Int) < (xs.length : Int) := by omega
   simp only [c1, c2, decide_true, cond_true]
   rw [show (xs ++ [t]).getD (k : Int).toNat default = xs.getD (k : Int).toNat default by
    rw [Int.toNat_natCast, List.getD_eq_getElem?_getD, List.getElem?_append_left hc, <- List.getD_eq_getElem?_getD]]
   have := sumT_app xs t x n (W64 (v + Fnet1 (xs.getD (k : Int).toNat default) x)) (k + 1) (by omega) (by omega)
   rw [Int.natCast_add] at this
   exact this
  ·have hk : k = xs.length := by omega
   subst hk
   rw [sumT_step (xs ++ [t]) x (n + 1), sumT_step xs x n]
   have c1 : (xs.length : Int) < (((xs ++ [t]).length : Nat) : Int) := by simp only [List.length_append, List.length_cons, List.length_nil]; omega
   have c2 : ¬ (xs.length : Int) < (xs.length : Int) := by omega
   simp only [c1, c2, decide_true, decide_false, cond_true, cond_false]
   have e1 : (xs ++ [t]).getD ((xs.length : Nat) : Int).toNat default = t := by
    rw [Int.toNat_natCast, List.getD_eq_getElem?_getD, List.getElem?_append_right (Nat.le_refl _), Nat.sub_self]; rfl
   rw [e1, sumT_step (xs ++ [t]) x n]
   have c3 : ¬ ((xs.length : Int) + 1 < (((xs ++ [t]).length : Nat) : Int)) := by simp only [List.length_append, List.length_cons, List.length_nil]; omega
   simp only [c3, decide_false, cond_false]
theorem ba_eq {a b : ByteArray} : (a.toList == b.toList) = true ↔ a = b := by
 have := eqS_ok a b
 unfold eqS at this
 rw [this, Value.string.injEq]
theorem more_eq {B : TBoard} (h : MadeP B) (t : TTrack) (x : ByteArray) (ht : t.Net = nGND) {o : TShape} {v : List TVia} {p : List TPour} {k : List TKeep} {s : List TSlot} {cl : List TClass} {ru : List TRule} {wa : List TWaiver} {ma : List TMatch} {la : Int} {pa : List TPlaced} {ne : List TNet} :
  FlenNet (TBoard.mk la o pa ne (B.Tracks ++ [t]) v p k s cl ru wa ma) x = W64 (FlenNet B x + (bif (x.toList == nGND.toList) then FlenShape t.Shape else 0)) := by
 have hr := net_rng h x
 unfold FlenNet at *
 cases he : Z0k x with
 | true =>
  have hx : x = { data := #[] } := by unfold Z0k at he; exact ba_eq.1 he
  subst hx
  have : (({ data := #[] } : ByteArray).toList == nGND.toList) = false := by decide +kernel
  rw [this]
  rfl
 | false =>
  rw [he] at hr
  simp only [cond_false] at *
  unfold FsumT at *
  have e := sumT_app B.Tracks t x (((B.Tracks.length : Int) - 0).toNat + 1) 0 0 (by omega) (by omega)
  have e2 : ((((B.Tracks ++ [t]).length : Nat) : Int) - 0).toNat + 1 = (((B.Tracks.length : Int) - 0).toNat + 1) + 1 := by
   simp only [List.length_append, List.length_cons, List.length_nil]; omega
  rw [e2]
  refine Eq.trans e ?_
  have e3 : Fnet1 t x = bif (x.toList == nGND.toList) then FlenShape t.Shape else 0 := by
   unfold Fnet1
   rw [ht]
   cases hq : (x.toList == nGND.toList) with
   | true =>
    have := ba_eq.1 hq
    rw [this]
    simp
   | false =>
    have : (nGND.toList == x.toList) = false := by
     cases hq2 : (nGND.toList == x.toList) with
     | false => rfl
     | true =>
      have h5 := ba_eq.1 hq2
      rw [<- h5] at hq
      simp at hq
    rw [this]
    rfl
  rw [e3]
  rfl
def Sp (L : ByteArray -> Int) (l : List ByteArray) (lo hi : Int) : Prop := (∀ x ∈ l, lo <= L x /\ L x <= hi) /\ (∃ x ∈ l, L x = lo) /\ ∃ x ∈ l, L x = hi
theorem mput_mem {l : List (ByteArray × Int)} {k : ByteArray} {v : Int} {e : ByteArray × Int} (h : e ∈ mput eqS l k v) : e = (k, v) \/ e ∈ l := by
 unfold mput at h
 cases hm : mhas eqS l k with
 | true =>
  rw [hm] at h
  simp only [cond_true] at h
  rcases List.mem_or_eq_of_mem_set h with h | h
  ·exact .inr h
  ·exact .inl h
 | false =>
  rw [hm] at h
  simp only [cond_false] at h
  rcases List.mem_append.1 h with h | h
  ·exact .inr h
  ·exact .inl (List.mem_singleton.1 h)
theorem look_eq {L : ByteArray -> Int} {l : List (ByteArray × Int)} (h : ∀ e ∈ l, e.2 = L e.1) (k : ByteArray) : (bif !(mhas eqS l k) then L k else (bif mhas eqS l k then (l.getD (mfind eqS l k) default).2 else 0)) = L k := by
 cases hm : mhas eqS l k with
 | false => rfl
 | true =>
  simp only [Bool.not_true, cond_false, cond_true]
  obtain ⟨h1, h2, _⟩ := mfind_lt hm
  rw [List.getD_eq_getElem?_getD, List.getElem?_eq_getElem h1] at h2 ⊢
  have hk : (l[mfind eqS l k]).1 = k := by unfold eqS at h2; exact ba_eq.1 h2
  have := h _ (List.getElem_mem h1)
  show (l[mfind eqS l k]).2 = L k
  rw [this, hk]
theorem spread_l0 (b : TBoard) (m : TMatch) (hL : ∀ x, -500000000000000000 <= FlenNet b x /\ FlenNet b x <= 500000000000000000) : ∀ (n : Nat) (ls : List (ByteArray × Int)) (low high : Int) (j : Nat), j <= m.Nets.length -> m.Nets.length - j < n -> (∀ e ∈ ls, e.2 = FlenNet b e.1) ->
  (j = 0 /\ low = 9223372036854775807 /\ high = -9223372036854775808) \/ Sp (FlenNet b) (m.Nets.take j) low high -> 1 <= m.Nets.length -> ∃ lo hi, Sp (FlenNet b) m.Nets lo hi /\ FlenSpread_l0 b m n ls low high (j : Int) = (W64 (hi - lo), true)
 | 0, ls, low, high, j, _, h, _, _, _ => absurd h (Nat.not_lt_zero _)
 | n + 1, ls, low, high, j, h0, h1, hls, hinv, h2 => by
  unfold FlenSpread_l0
  by_cases hc : j < m.Nets.length
  ·have c1 : (j : Int) < (m.Nets.length : Int) := by omega
   simp only [c1, decide_true, cond_true]
   have ex : (bif !(Z0l ls m (j : Int)) then (FlenNet b (m.Nets.getD (j : Int).toNat default)) else (bif mhas eqS ls (m.Nets.getD (j : Int).toNat default) then (ls.getD (mfind eqS ls (m.Nets.getD (j : Int).toNat default)) default).2 else 0)) = FlenNet b (m.Nets.getD (j : Int).toNat default) := look_eq hls _
   rw [ex]
   have hx := hL (m.Nets.getD (j : Int).toNat default)
   have hgj : m.Nets.getD (j : Int).toNat default = m.Nets[j] := by rw [Int.toNat_natCast, List.getD_eq_getElem?_getD, List.getElem?_eq_getElem hc]; rfl
   rw [hgj] at hx ⊢
   have htk : m.Nets.take (j + 1) = m.Nets.take j ++ [m.Nets[j]] := by rw [List.take_add_one, List.getElem?_eq_getElem hc]; rfl
   have := spread_l0 b m hL n (bif !(Z0l ls m (j : Int)) then (mput eqS ls m.Nets[j] (FlenNet b m.Nets[j])) else ls) (min low (FlenNet b m.Nets[j])) (max high (FlenNet b m.Nets[j])) (j + 1) (by omega) (by omega) (fun e he => by
    cases hq : (!(Z0l ls m (j : Int)) : Bool) with
    | true =>
     rw [hq] at he
     rcases mput_mem he with rfl | he
     ·rfl
     ·exact hls e he
    | false => rw [hq] at he; exact hls e he) (.inr (by
     rw [htk]
     rcases hinv with ⟨rfl, rfl, rfl⟩ | ⟨g1, ⟨x, g2, g3⟩, y, g4, g5⟩
     ·refine ⟨fun x hx' => ?_, ⟨m.Nets[0], by simp, by omega⟩, m.Nets[0], by simp, by omega⟩
      simp only [List.take_zero, List.nil_append, List.mem_singleton] at hx'
      rw [hx']; omega
     ·refine ⟨fun z hz => ?_, ?_, ?_⟩
      ·rcases List.mem_append.1 hz with hz | hz
       ·have := g1 z hz; omega
       ·rw [List.mem_singleton.1 hz]; omega
      ·rcases Int.le_total low (FlenNet b m.Nets[j]) with h | h
       ·exact ⟨x, List.mem_append_left _ g2, by omega⟩
       ·exact ⟨m.Nets[j], List.mem_append_right _ (List.mem_singleton.2 rfl), by omega⟩
      ·rcases Int.le_total (FlenNet b m.Nets[j]) high with h | h
       ·exact ⟨y, List.mem_append_left _ g4, by omega⟩
       ·exact ⟨m.Nets[j], List.mem_append_right _ (List.mem_singleton.2 rfl), by omega⟩)) h2
   rw [Int.natCast_add] at this
   exact this
  ·have c1 : ¬ (j : Int) < (m.Nets.length : Int) := by omega
   simp only [c1, decide_false, cond_false]
   have hj : j = m.Nets.length := by omega
   rcases hinv with ⟨h, _⟩ | h
   ·omega
   ·rw [hj, List.take_length] at h
    exact ⟨low, high, h, rfl⟩
theorem spread_sp {b : TBoard} (h : MadeP b) {nm : ByteArray} {l : List ByteArray} {w : Int} (hl : 1 <= l.length) : ∃ lo hi, Sp (FlenNet b) l lo hi /\ FlenSpread b (TMatch.mk nm l w) = (hi - lo, true) := by
 unfold FlenSpread
 have c1 : ¬ (((TMatch.mk nm l w).Nets.length : Int) = 0) := by show ¬ ((l.length : Int) = 0); omega
 simp only [c1, decide_false, cond_false]
 obtain ⟨lo, hi, hs, he⟩ := spread_l0 b (TMatch.mk nm l w) (net_rng h) _ [] 9223372036854775807 (-9223372036854775808) 0 (Nat.zero_le _) (by show l.length - 0 < (((l.length : Int)) - 0).toNat + 1; omega) (fun e he => by cases he) (.inl ⟨rfl, rfl, rfl⟩) hl
 refine ⟨lo, hi, hs, he.trans ?_⟩
 obtain ⟨_, ⟨x, _, hx⟩, y, _, hy⟩ := hs
 have h1 := net_rng h x
 have h2 := net_rng h y
 rw [W64_id (by omega) (by omega)]
theorem sp_mono {L : ByteArray -> Int} {l m : List ByteArray} {lo hi lo' hi' : Int} (h : Sp L l lo hi) (h' : Sp L m lo' hi') (hs : ∀ x ∈ l, x ∈ m) : hi - lo <= hi' - lo' := by
 obtain ⟨_, ⟨x, hx, ex⟩, y, hy, ey⟩ := h
 have h1 := h'.1 x (hs x hx)
 have h2 := h'.1 y (hs y hy)
 omega
section
variable (c : TCase) (names : List ByteArray)
theorem sp_l3 (v8 : List ByteArray) (v41 : Int) (v9 : List ByteArray) (v12 v13 v67 : Int) (K0 : List ByteArray -> Int -> Bool) (K1 : List ByteArray -> Int -> Bool) (K2 : Int -> Int -> Bool) (hlast : (FlenSpread (FMade17 c.Board).1 (TMatch.mk (⟨#[]⟩) v9 0)).1 = v13) : ∀ (n : Nat) (k : Int), 0 <= k -> ((v8.length : Int) - k).toNat < n -> FLengthSpread_l3 c names v8 v41 v9 v12 v13 v67 K0 K1 K2 n k = true
 | 0, k, _, h => absurd h (Nat.not_lt_zero _)
 | n + 1, k, k0, h => by
  unfold FLengthSpread_l3
  by_cases hc : k < (v8.length : Int)
  ·simp only [hc, decide_true, cond_true]
   rw [more_eq (made_p c.Board) _ _ rfl]
   have hw : Z7k v8 k = ((v8.getD k.toNat default).toList == nGND.toList) := rfl
   rw [hw]
   simp only [decide_true, Bool.not_true, cond_false]
   exact sp_l3 v8 v41 v9 v12 v13 v67 K0 K1 K2 hlast n (k + 1) (by omega) (by omega)
  ·simp only [hc, decide_false, cond_false]
   rw [sane25, hlast]
   simp
theorem sp_l2 (v8 : List ByteArray) (v41 : Int) (v9 : List ByteArray) (v12 : Int) (K0 : List ByteArray -> Int -> Bool) (K1 : List ByteArray -> Int -> Bool) (h8 : 1 <= v8.length) (h9 : ∀ x, x ∈ v9 ↔ x ∈ v8) (hl9 : 1 <= v9.length) : ∀ (n : Nat) (v13 : Int) (k : Nat), k <= v8.length -> v8.length - k < n -> (k = 0 /\ v13 = 0) \/ (1 <= k /\ ∃ lo hi, Sp (FlenNet (FMade17 c.Board).1) (v8.take k) lo hi /\ v13 = hi - lo) -> FLengthSpread_l2 c names v8 v41 v9 v12 K0 K1 n v13 (k : Int) = true
 | 0, v13, k, _, h, _ => absurd h (Nat.not_lt_zero _)
 | n + 1, v13, k, hk, h, hinv => by
  unfold FLengthSpread_l2
  have hM := made_p c.Board
  by_cases hc : k < v8.length
  ·have c1 : (k : Int) < ((v8.length : Nat) : Int) := by omega
   simp only [c1, decide_true, cond_true]
   have hlen : 1 <= (v8.take ((k : Int) + 1 : Int).toNat).length := by rw [List.length_take]; omega
   have etk : ((k : Int) + 1 : Int).toNat = k + 1 := by omega
   obtain ⟨lo, hi, hs, he⟩ := spread_sp hM (nm := ⟨#[]⟩) (w := 0) hlen
   have hw : Z7l c v8 (k : Int) = false := by unfold Z7l; rw [he]; rfl
   rw [hw, he]
   have hlow : ¬ (hi - lo < v13) := by
    rcases hinv with ⟨h1, h2⟩ | ⟨h1, lo', hi', h2, h3⟩
    ·obtain ⟨q1, ⟨x, hx, ex⟩, y, hy, ey⟩ := hs
     have := q1 y hy
     omega
    ·have := sp_mono h2 hs (fun x hx => by rw [etk]; exact List.mem_of_mem_take (i := k) (by rw [List.take_take, show min k (k + 1) = k by omega]; exact hx))
     omega
   have hz : (bif decide ((k : Int) = 0) then !decide ((hi - lo : Int) = 0) else false) = false := by
    by_cases hk0 : k = 0
    ·subst hk0
     obtain ⟨q1, ⟨x, hx, ex⟩, y, hy, ey⟩ := hs
     rw [etk, List.take_one] at hx hy
     have hxy : x = y := by
      cases hh : v8.head? with
      | none => rw [hh] at hx; cases hx
      | some a =>
       rw [hh] at hx hy
       simp only [Option.toList_some, List.mem_singleton] at hx hy
       rw [hx, hy]
     subst hxy
     have : hi - lo = 0 := by omega
     simp [this]
    ·have : ¬ ((k : Int) = 0) := by omega
     rw [decide_eq_false this]
     rfl
   simp only [hlow, decide_false, cond_false]
   rw [hz]
   simp only [cond_false]
   have := sp_l2 v8 v41 v9 v12 K0 K1 h8 h9 hl9 n (hi - lo) (k + 1) (by omega) (by omega) (.inr ⟨by omega, lo, hi, by rw [etk] at hs; exact hs, rfl⟩)
   rw [Int.natCast_add] at this
   exact this
  ·have c1 : ¬ (k : Int) < ((v8.length : Nat) : Int) := by omega
   simp only [c1, decide_false, cond_false]
   refine sp_l3 c names v8 v41 v9 v12 v13 _ K0 K1 _ ?_ _ 0 (by omega) (Nat.lt_succ_self _)
   rcases hinv with ⟨h1, _⟩ | ⟨h1, lo', hi', h2, h3⟩
   ·omega
   ·obtain ⟨lo, hi, hs, he⟩ := spread_sp hM (nm := ⟨#[]⟩) (w := 0) hl9
    rw [he, h3]
    rw [show k = v8.length by omega, List.take_length] at h2
    have a1 := sp_mono h2 hs (fun x hx => (h9 x).2 hx)
    have a2 := sp_mono hs h2 (fun x hx => (h9 x).1 hx)
    show hi - lo = hi' - lo'
    omega
theorem sp_l1 (v8 : List ByteArray) (v41 : Int) (K0 : List ByteArray -> Int -> Bool) (h8 : 1 <= v8.length) (h88 : v8.length <= 100) : ∀ (n : Nat) (v9 : List ByteArray) (k : Int), -1 <= k -> k < (v8.length : Int) -> (k + 1).toNat < n -> (∀ x, x ∈ v9 ↔ x ∈ v8.drop (k + 1).toNat) -> FLengthSpread_l1 c names v8 v41 K0 n v9 k = true
 | 0, v9, k, _, _, h, _ => absurd h (Nat.not_lt_zero _)
 | n + 1, v9, k, k0, k1, h, hm => by
  unfold FLengthSpread_l1
  by_cases hc : 0 <= k
  ·simp only [hc, decide_true, cond_true]
   refine sp_l1 v8 v41 K0 h8 h88 n _ (k - 1) (by omega) (by omega) (by omega) fun x => ?_
   have hk : k.toNat < v8.length := by omega
   rw [show (k - 1 + 1).toNat = k.toNat by omega, List.drop_eq_getElem_cons hk, List.mem_append, List.mem_singleton, List.mem_cons, hm x, show (k + 1).toNat = k.toNat + 1 by omega, List.getD_eq_getElem?_getD, List.getElem?_eq_getElem hk]
   exact Or.comm
  ·simp only [hc, decide_false, cond_false]
   have hk : k = -1 := by omega
   subst hk
   have hm' : ∀ x, x ∈ v9 ↔ x ∈ v8 := fun x => by rw [hm x]; rfl
   refine sp_l2 c names v8 v41 v9 _ K0 _ h8 hm' ?_ _ 0 0 (by omega) (by omega) (.inl ⟨rfl, rfl⟩)
   cases v9 with
   | nil =>
    cases v8 with
    | nil => simp at h8
    | cons a l => have := (hm' a).2 (by simp); cases this
   | cons a l => simp
theorem sp_l0 : ∀ (n : Nat) (v8 : List ByteArray) (k : Int), 0 <= k -> k <= 3 -> 1 <= v8.length -> (v8.length : Int) <= 4 + k -> (((FMade17 c.Board).1.Nets.length : Int) - k).toNat < n -> FLengthSpread_l0 c names n v8 k = true
 | 0, v8, k, _, _, _, _, h => absurd h (Nat.not_lt_zero _)
 | n + 1, v8, k, k0, k3, h8, h9, h => by
  have hN := mp_net (made_p c.Board)
  unfold FLengthSpread_l0
  by_cases hc : k < ((FMade17 c.Board).1.Nets.length : Int)
  ·simp only [hc, decide_true, cond_true]
   exact sp_l0 n _ (k + 1) (by omega) (by omega) (by simp) (by simp only [List.length_append, List.length_cons, List.length_nil]; omega) (by omega)
  ·simp only [hc, decide_false, cond_false]
   rw [W64_id (by omega) (by omega)]
   refine sp_l1 c names v8 k _ h8 (by omega) _ [] _ (by omega) (by omega) (by omega) fun x => ?_
   rw [show ((v8.length : Int) - 1 + 1).toNat = v8.length by omega, List.drop_length]
theorem lengthSpread_true : FLengthSpread c names = true := by
 unfold FLengthSpread
 refine sp_l0 c names _ _ 0 (by omega) (by omega) (by simp) ?_ (by omega)
 simp only [List.length_append, List.length_cons, List.length_nil, List.length_take]
 omega
end
end
section
open Go.ChangeShapes Go.WideShapes Go.ChangeAt Go.RowKit
theorem lengthSpread_lifted (os : Os) (started : os.Started) (H : Type) (enc : TypeId × Value -> H) :
  ReturnsInHanded {} Try.checked os 7 .any (Rows.lengthSpreadSpec.pre6 enc Try.prog Try.f7 Rows.lengthSpreadRow.domain false) (Rows.lengthSpreadSpec.post enc Try.prog Try.f7 false true false false) := by
 refine returnsInHanded_of_change (C := Try.checked) own started kr Try.func7
  (ChangeSpec.witness6 (enc := enc) (C := Try.checked) false ⟨#[], #[.agg #[.slice none 0 0, .slice none 0 0, .slice none 0 0, .int .i64 0, .int .i64 0, .int .i64 0], .slice none 0 0], []⟩ 8 kr kr kr kr) ?_
 intro W base args ds gs before hval0 hW hcnd _
 have hval : ∀ (j : Nat) t v, Try.f7.params[j]? = some t -> args[j]? = some v -> Value.okWide Try.prog W .any base t v := hval0
 have hW' := hW
 obtain ⟨p, q, hA0, hV, rfl, hfz, hnd⟩ := hW
 have hA : DataW.TrodAll enc Try.prog W 0 (fun _ => true) true Try.f7.params.toList args.toList ds p := hA0
 rw [Try.params7] at hA hval
 obtain ⟨v0, vs0, d0, ds0, p0, q0, hargs, rfl, rfl, h0, r0⟩ := trodAll_cons hA
 obtain ⟨v1, vs1, d1, ds1, p1, q1, rfl, rfl, rfl, h1, r1⟩ := trodAll_cons r0
 obtain ⟨rfl, rfl, rfl⟩ := trodAll_nil r1
 obtain rfl : args = #[v0, v1] := by cases args; simp_all
 obtain ⟨c, kc, x0⟩ := open_agg opT29 (.inl ⟨_, Try.underlying29⟩) (hval 0 29 v0 rfl rfl) h0
 obtain ⟨names, knames, x1⟩ := open_one opT63 (.inl ⟨_, Try.underlying63⟩) (hval 1 63 v1 rfl rfl) h1
 clear hA0 hval0
 refine (law_of_pure (pLengthSpread c names (maxLen_i kc.1.1) (maxLen_i kc.2.2.1.1) (fun x hx => maxLen_i (kc.2.2.1.2 x hx).1) (maxLen_i knames.1)) (lengthSpread_true c names) (.cons x0 (.cons x1 .nil))).mono fun e W' ⟨he, hb⟩ => ?_
 subst he
 exact ⟨_, rfl, law_post hW' rfl rfl laidOut (by rw [Try.params7]; exact List.forall_mem_cons.2 ⟨⟨by kernel_rfl, of_decide_eq_true kr⟩, List.forall_mem_cons.2 ⟨⟨by kernel_rfl, of_decide_eq_true kr⟩, List.forall_mem_nil _⟩⟩) rfl Try.underlying4 hb⟩
theorem lengthSpread_holds : Rows.LengthSpreadSaid :=
 OpenClaim.holds_of_wide 7 Try.f7 rfl rfl rfl rfl rfl rfl rfl ⟨rfl, rfl, rfl, rfl, rfl⟩ rfl rfl rfl rfl rfl kr Try.func7 kr
  (of_decide_eq_true kr) (by unfold Func.isWrapper; first | (rw [if_pos (by decide +kernel)]; kernel_rfl) | (rw [if_neg (by decide +kernel)]; exact ⟨rfl, rfl⟩))
  (fun os started H enc _ => lengthSpread_lifted os started H enc)
#print axioms lengthSpread_holds
end
end Go.Proofs.Ytgmhnkoifdpemaa
