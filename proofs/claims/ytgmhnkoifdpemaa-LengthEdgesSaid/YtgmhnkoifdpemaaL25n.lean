/-
  No statement is proved in this text. It holds what functions return.
-/
import Derived.Test.YtgmhnkoifdpemaaProg
import Derived.Test.YtgmhnkoifdpemaaL25
namespace Go.Proofs.Ytgmhnkoifdpemaa
open Go.RowKit
set_option linter.unusedVariables false
set_option linter.unusedSimpArgs false
def Fnet1 (t : TTrack) (net : ByteArray) : Int := bif !(t.Net.toList == net.toList) then (0) else (FlenShape t.Shape)
set_option maxRecDepth 100000 in
theorem pnet1  (t : TTrack) (net : ByteArray) (h0 : (t.Shape.Edges.length : Int) ≤ 1000000) : Pure Try.prog 63 [.agg (TTrack.c t), .one (.eptr 1 1 (fun _ j => ([.s net] : List Cl).getD j default) 0 0)] (.av (.one (.i (Fnet1 t net)))) := by
  refine pure_of_awF Try.func63 rfl (by kernel_rfl) (by kernel_rfl) fun W0 M0 => ?_
  refine aw_seq ?_
  refine aw_region eqok [] [] [] [1, 2] [2] [] ⟨[(1, .av (.one (.eptr 1 1 (fun _ j => ([.s net] : List Cl).getD j default) 0 0))), (2, tP 2 0)], [(2, .cells (TTrack.c t) 81)]⟩ .nil (by kernel_rfl) .nil ?_
  refine ath_n ?_
  refine aw_seq ?_
  refine aw_seq ?_
  refine aw_region eqok [] [] [] [2, 7] [2] [] ⟨[(2, tP 2 0), (7, tB (!(t.Net.toList == net.toList)))], [(2, .cells (TTrack.c t) 81)]⟩ .nil (by kernel_rfl) .nil ?_
  refine ath_n ?_
  refine aw_cond (!(t.Net.toList == net.toList)) (by kernel_rfl) (fun h1 => ?_) (fun h1 => ?_)
  · refine aw_seq ?_
    refine aw_region eqok [] [] [] [3] [] [] ⟨[(3, tI 0)], []⟩ .nil (by kernel_rfl) .nil ?_
    refine ath_n ?_
    refine aw_ret ?_
    refine ath_r ?_
    exact ⟨_, Cv.refl _, .inl rfl, .av (.one (.i 0)), by kernel_rfl, tve_eq (by first | (simp only [Fnet1, h1, cond_true, cond_false]; done) | (simp only [Fnet1, h1, cond_true, cond_false]; rfl))⟩
  · refine aw_skip ?_
    refine ath_n ?_
    refine aw_seq ?_
    refine aw_region eqok [] [] [(10, clenShape t.Shape)] [3] [] [Same (clenShape t.Shape).2.1] ⟨[(3, tI (FlenShape t.Shape))], []⟩ (.cons (oklenShape t.Shape (by first | with_reducible assumption | omega | decide | (simp only [List.length_cons, List.length_nil, List.length_append]; omega) | assumption)) .nil) (by kernel_rfl) (.cons rfl .nil) ?_
    refine ath_n ?_
    refine aw_ret ?_
    exact ⟨_, Cv.refl _, .inl rfl, .av (.one (.i (FlenShape t.Shape))), by kernel_rfl, tve_eq (by first | (simp only [Fnet1, h1, cond_true, cond_false]; done) | (simp only [Fnet1, h1, cond_true, cond_false]; rfl))⟩
def wsumT_1 (xs : (List TTrack)) (v10 : Int) (net : ByteArray) : FuncId × List Av × Ef := (63, [.agg (TTrack.c (xs.getD v10.toNat default)), .one (.eptr 1 1 (fun _ j => ([.s net] : List Cl).getD j default) 0 0)], .val [] (tI (Fnet1 (xs.getD v10.toNat default) net)))
def FsumT_l0 (xs : (List TTrack)) (net : ByteArray) : Nat → Int → Int → Int
  | 0, _, _ => default
  | n0 + 1, n_, v10 => bif decide ((v10 : Int) < ((xs.length : Int))) then ((FsumT_l0 xs net n0) (W64 (n_ + (Fnet1 (xs.getD v10.toNat default) net))) (v10 + 1)) else (n_)
def FsumT (xs : (List TTrack)) (net : ByteArray) : Int := FsumT_l0 xs net (((((xs.length : Int))) - 0).toNat + 1) 0 0
set_option maxRecDepth 100000 in
theorem psumT  (xs : (List TTrack)) (net : ByteArray) (hx : (xs.length : Int) ≤ 1000000) (ht : (∀ i, (((xs.getD i default).Shape.Edges.length : Int) ≤ 1000000))) : Pure Try.prog 62 [.one (lst 6 TTrack.c xs), .one (.clo 63 1 (listF [.eptr 1 1 (fun _ j => ([.s net] : List Cl).getD j default) 0 0]))] (.av (.one (.i (FsumT xs net)))) := by
  refine pure_of_awF Try.func62 rfl (by kernel_rfl) (by kernel_rfl) fun W0 M0 => ?_
  refine aw_seq ?_
  refine aw_region eqok [] [] [] [0, 1] [] [] ⟨[(0, .av (.one (lst 6 TTrack.c xs))), (1, .av (.one (.clo 63 1 (listF [.eptr 1 1 (fun _ j => ([.s net] : List Cl).getD j default) 0 0]))))], []⟩ .nil (by kernel_rfl) .nil ?_
  refine ath_n ?_
  refine aw_seq ?_
  refine aw_region eqok [] [] [] [0, 1, 5] [] [] ⟨[(0, .av (.one (lst 6 TTrack.c xs))), (1, .av (.one (.clo 63 1 (listF [.eptr 1 1 (fun _ j => ([.s net] : List Cl).getD j default) 0 0])))), (5, tI 0)], []⟩ .nil (by kernel_rfl) .nil ?_
  refine ath_n ?_
  refine aw_seq ?_
  refine aw_seq ?_
  refine aw_region eqok [] [] [] [1, 5, 8, 9, 10] [] [] ⟨[(1, .av (.one (.clo 63 1 (listF [.eptr 1 1 (fun _ j => ([.s net] : List Cl).getD j default) 0 0])))), (5, tI 0), (8, .av (.one (lst 6 TTrack.c xs))), (9, tI ((xs.length : Int))), (10, tI 0)], []⟩ .nil (by kernel_rfl) .nil ?_
  refine ath_n ?_
  refine aw_block ?_
  refine aw_loopC (ι := Nat × Int × Int) (fun x => ⟨[(1, .av (.one (.clo 63 1 (listF [.eptr 1 1 (fun _ j => ([.s net] : List Cl).getD j default) 0 0])))), (5, tI x.2.1), (8, .av (.one (lst 6 TTrack.c xs))), (9, tI ((xs.length : Int))), (10, tI x.2.2)], []⟩) (fun x => ((((xs.length : Int))) - x.2.2).toNat < x.1 ∧ (0 ≤ x.2.2 ∧ (x.2.2 ≤ ((xs.length : Int)) ∨ x.2.2 = 0)) ∧ FsumT_l0 xs net x.1 x.2.1 x.2.2 = FsumT xs net) (fun x => x.1) ?_ (((((xs.length : Int))) - 0).toNat + 1, 0, 0) ⟨Nat.lt_succ_self _, ⟨(by show 0 ≤ 0; first | trivial | omega | (simp only [List.length_append, List.length_cons, List.length_nil]; omega) | (simp only [List.length_set, List.length_append, List.length_cons, List.length_nil]; omega) | (simp only [W64_def]; omega) | (simp; omega) | simp), (by show (0 ≤ ((xs.length : Int)) ∨ 0 = 0); first | trivial | omega | (simp only [List.length_append, List.length_cons, List.length_nil]; omega) | (simp only [List.length_set, List.length_append, List.length_cons, List.length_nil]; omega) | (simp only [W64_def]; omega) | (simp; omega) | simp)⟩, (by simp only [FsumT, cond_true, cond_false])⟩
  rintro ⟨n0, n_, v10⟩ ⟨hn, hinv, hF⟩
  have hm0 : ((((xs.length : Int))) - v10).toNat < n0 := hn; have hinv0 : 0 ≤ v10 ∧ (v10 ≤ ((xs.length : Int)) ∨ v10 = 0) := hinv; have hF0 : FsumT_l0 xs net n0 n_ v10 = FsumT xs net := hF; clear hn hinv hF
  cases n0 with
  | zero => exact absurd hm0 (Nat.not_lt_zero _)
  | succ n0 =>
    refine aw_seq ?_
    refine aw_region eqok [] [] [] [1, 5, 8, 9, 10, 11] [] [] ⟨[(1, .av (.one (.clo 63 1 (listF [.eptr 1 1 (fun _ j => ([.s net] : List Cl).getD j default) 0 0])))), (5, tI n_), (8, .av (.one (lst 6 TTrack.c xs))), (9, tI ((xs.length : Int))), (10, tI v10), (11, tB (decide ((v10 : Int) < ((xs.length : Int)))))], []⟩ .nil (by kernel_rfl) .nil ?_
    refine ath_n ?_
    refine aw_seq ?_
    refine aw_cond (decide ((v10 : Int) < ((xs.length : Int)))) (by kernel_rfl) (fun h1 => ?_) (fun h1 => ?_)
    · have g1 := of_decide_eq_true h1
      refine aw_skip ?_
      refine ath_n ?_
      refine aw_seq ?_
      refine aw_block ?_
      refine aw_seq ?_
      refine aw_region eqok [] [] [] [1, 5, 7, 8, 9, 10] [7] [0 ≤ (v10 : Int) ∧ (v10 : Int) < ((xs.length : Nat) : Int)] ⟨[(1, .av (.one (.clo 63 1 (listF [.eptr 1 1 (fun _ j => ([.s net] : List Cl).getD j default) 0 0])))), (5, tI n_), (7, tP 7 0), (8, .av (.one (lst 6 TTrack.c xs))), (9, tI ((xs.length : Int))), (10, tI v10)], [(7, .cells (TTrack.c (xs.getD v10.toNat default)) 81)]⟩ .nil (by kernel_rfl) (.cons (by first | decide | omega | exact idx_tmod (by first | omega | (simp only [W64_def]; omega)) (by omega) | (simp only [W64_def]; omega) | (constructor <;> omega) | (simp only [List.length_append, List.length_cons, List.length_nil]; omega) | (simp only [List.length_append, List.length_cons, List.length_nil, List.length_drop, List.length_take] at *; omega)) .nil) ?_
      refine ath_n ?_
      refine aw_region eqok [] [] [(17, (wsumT_1 xs v10 net))] [1, 5, 8, 9, 10] [] [Same (wsumT_1 xs v10 net).2.1] ⟨[(1, .av (.one (.clo 63 1 (listF [.eptr 1 1 (fun _ j => ([.s net] : List Cl).getD j default) 0 0])))), (5, tI (W64 (n_ + (Fnet1 (xs.getD v10.toNat default) net)))), (8, .av (.one (lst 6 TTrack.c xs))), (9, tI ((xs.length : Int))), (10, tI v10)], []⟩ (.cons (callOk_pure (fun _ _ => by kernel_rfl) fun _ => pnet1 (xs.getD v10.toNat default) net (by first | (exact ht _) | (exact hb1 _) | with_reducible assumption | omega | decide | (simp only [List.length_cons, List.length_nil, List.length_append]; omega) | assumption)) .nil) (by kernel_rfl) (.cons rfl .nil) ?_
      refine abl_n ?_
      refine ath_n ?_
      refine aw_region eqok [] [] [] [1, 5, 8, 9, 10] [] [] ⟨[(1, .av (.one (.clo 63 1 (listF [.eptr 1 1 (fun _ j => ([.s net] : List Cl).getD j default) 0 0])))), (5, tI (W64 (n_ + (Fnet1 (xs.getD v10.toNat default) net)))), (8, .av (.one (lst 6 TTrack.c xs))), (9, tI ((xs.length : Int))), (10, tI (W64 (v10 + 1)))], []⟩ .nil (by kernel_rfl) .nil ?_
      (try rw [(show W64 (v10 + 1) = v10 + 1 from W64_id (by omega) (by first | omega | (simp only [List.length_drop, List.length_take] at *; omega)))])
      refine ath_n ?_
      refine ⟨(n0, W64 (n_ + (Fnet1 (xs.getD v10.toNat default) net)), v10 + 1), ⟨?_, ?_, (by rw [← hF0]; simp only [FsumT_l0, h1, cond_true, cond_false])⟩, Nat.lt_succ_self _, cv_eq (by kernel_rfl)⟩
      · show ((((xs.length : Int))) - (v10 + 1)).toNat < n0; omega
      · exact ⟨(by show 0 ≤ (v10 + 1); first | trivial | omega | (simp only [List.length_append, List.length_cons, List.length_nil]; omega) | (simp only [List.length_set, List.length_append, List.length_cons, List.length_nil]; omega) | (simp only [W64_def]; omega) | (simp; omega) | simp), (by show ((v10 + 1) ≤ ((xs.length : Int)) ∨ (v10 + 1) = 0); first | trivial | omega | (simp only [List.length_append, List.length_cons, List.length_nil]; omega) | (simp only [List.length_set, List.length_append, List.length_cons, List.length_nil]; omega) | (simp only [W64_def]; omega) | (simp; omega) | simp)⟩
    · have g1 := of_decide_eq_false h1
      refine aw_exit ?_
      refine ath_e ?_
      refine ath_e ?_
      refine abl_hit ?_
      refine ath_n ?_
      refine aw_seq ?_
      refine aw_region eqok [] [] [] [4] [] [] ⟨[(4, tI n_)], []⟩ .nil (by kernel_rfl) .nil ?_
      refine ath_n ?_
      refine aw_ret ?_
      exact ⟨_, Cv.refl _, .inl rfl, .av (.one (.i n_)), by kernel_rfl, tve_eq (by rw [← hF0]; first | (simp only [FsumT_l0, h1, cond_true, cond_false]; done) | (simp only [FsumT_l0, h1, cond_true, cond_false]; rfl))⟩
def wlenNet_0 (net : ByteArray) : Bool := (net.toList == (({ data := #[] } : ByteArray)).toList)
def FlenNet (b : TBoard) (net : ByteArray) : Int := bif wlenNet_0 net then (0) else (FsumT b.Tracks net)
def clenNet (b : TBoard) (net : ByteArray) : FuncId × List Av × Ef := (25, [.agg (TBoard.c b), .one (.s net)], .val [] (.av (.one (.i (FlenNet b net)))))
set_option maxRecDepth 100000 in
theorem plenNet (b : TBoard) (net : ByteArray) (hb0 : (b.Tracks.length : Int) ≤ 1000000) (hb1 : (∀ i, (((b.Tracks.getD i default).Shape.Edges.length : Int) ≤ 1000000))) : Pure Try.prog 25 (clenNet b net).2.1 (.av (.one (.i (FlenNet b net)))) := by
  refine pure_of_awF Try.func25 rfl (by kernel_rfl) (by kernel_rfl) fun W0 M0 => ?_
  refine aw_seq ?_
  refine aw_region eqok [] [] [] [2, 3] [2, 3] [] ⟨[(2, tP 2 0), (3, tP 3 0)], [(2, .cells (TBoard.c b) 62), (3, .cells [.s net] 9)]⟩ .nil (by kernel_rfl) .nil ?_
  refine ath_n ?_
  refine aw_seq ?_
  refine aw_seq ?_
  refine aw_region eqok [] [] [] [2, 3, 6] [2, 3] [] ⟨[(2, tP 2 0), (3, tP 3 0), (6, tB (wlenNet_0 net))], [(2, .cells (TBoard.c b) 62), (3, .cells [.s net] 9)]⟩ .nil (by kernel_rfl) .nil ?_
  refine ath_n ?_
  refine aw_cond (wlenNet_0 net) (by kernel_rfl) (fun h1 => ?_) (fun h1 => ?_)
  · refine aw_seq ?_
    refine aw_region eqok [] [] [] [4] [] [] ⟨[(4, tI 0)], []⟩ .nil (by kernel_rfl) .nil ?_
    refine ath_n ?_
    refine aw_ret ?_
    refine ath_r ?_
    exact ⟨_, Cv.refl _, .inl rfl, .av (.one (.i 0)), by kernel_rfl, tve_eq (by first | (simp only [FlenNet, h1, cond_true, cond_false]; done) | (simp only [FlenNet, h1, cond_true, cond_false]; rfl))⟩
  · refine aw_skip ?_
    refine ath_n ?_
    refine aw_seq ?_
    refine aw_region eqok [] [] [(10, (62, [.one (lst 6 TTrack.c b.Tracks), .one (.clo 63 1 (listF [.ptr 3 0]))], rdI [3] [.cells [.s net] 9] (tI (FsumT b.Tracks net))))] [4] [] [Same [.one (lst 6 TTrack.c b.Tracks), .one (.clo 63 1 (listF [.ptr 3 0]))], SameBs [.cells [.s net] 9]] ⟨[(4, tI (FsumT b.Tracks net))], []⟩ (.cons (callOk_rd (fun _ _ => by kernel_rfl) (by kernel_rfl) (by kernel_rfl) (pure_ce (psumT b.Tracks net (by first | (exact ht _) | (exact hb1 _) | with_reducible assumption | omega | decide | (simp only [List.length_cons, List.length_nil, List.length_append]; omega) | assumption) (by first | (exact ht _) | (exact hb1 _) | with_reducible assumption | omega | decide | (simp only [List.length_cons, List.length_nil, List.length_append]; omega) | assumption)) (.cons (AvE.refl _) (.cons (.one (.clo 63 1 _ _ (tab_get (by kernel_rfl)))) .nil)))) .nil) (by kernel_rfl) (.cons rfl (.cons rfl .nil)) ?_
    refine ath_n ?_
    refine aw_ret ?_
    exact ⟨_, Cv.refl _, .inl rfl, .av (.one (.i (FsumT b.Tracks net))), by kernel_rfl, tve_eq (by first | (simp only [FlenNet, h1, cond_true, cond_false]; done) | (simp only [FlenNet, h1, cond_true, cond_false]; rfl))⟩
theorem oklenNet (b : TBoard) (net : ByteArray) (hb0 : (b.Tracks.length : Int) ≤ 1000000) (hb1 : (∀ i, (((b.Tracks.getD i default).Shape.Edges.length : Int) ≤ 1000000))) : CallOk Try.prog (clenNet b net).1 (clenNet b net).2.1 (clenNet b net).2.2 := callOk_pure (fun _ _ => by kernel_rfl) fun _ => plenNet b net hb0 hb1
def wrefNet_1 (b : TBoard) (k : Int) (net : ByteArray) : Bool := (((b.Tracks.getD k.toNat default).Net).toList == net.toList)
def FrefNet_l0 (b : TBoard) (net : ByteArray) : Nat → Int → Int → Int
  | 0, _, _ => default
  | n0 + 1, out, k => bif bif decide ((k : Int) < ((b.Tracks.length : Int))) then !(net.toList == (({ data := #[] } : ByteArray)).toList) else false then ((FrefNet_l0 b net n0) (bif wrefNet_1 b k net then (W64 (out + (FrefShape ((b.Tracks.getD k.toNat default).Shape)))) else out) (k + 1)) else (out)
def FrefNet (b : TBoard) (net : ByteArray) : Int := FrefNet_l0 b net (((b.Tracks.length : Int) - 0).toNat + 1) 0 0
def crefNet (b : TBoard) (net : ByteArray) : FuncId × List Av × Ef := (26, [.agg (TBoard.c b), .one (.s net)], .val [] (.av (.one (.i (FrefNet b net)))))
set_option maxRecDepth 100000 in
theorem prefNet (b : TBoard) (net : ByteArray) (hb0 : (b.Tracks.length : Int) ≤ 1000000) (hb1 : (∀ i, (((b.Tracks.getD i default).Shape.Edges.length : Int) ≤ 1000000))) : Pure Try.prog 26 (crefNet b net).2.1 (.av (.one (.i (FrefNet b net)))) := by
  refine pure_of_awF Try.func26 rfl (by kernel_rfl) (by kernel_rfl) fun W0 M0 => ?_
  refine aw_seq ?_
  refine aw_region eqok [] [] [] [1, 2] [2] [] ⟨[(1, .av (.one (.s net))), (2, tP 2 0)], [(2, .cells (TBoard.c b) 62)]⟩ .nil (by kernel_rfl) .nil ?_
  refine ath_n ?_
  refine aw_seq ?_
  refine aw_region eqok [] [] [] [1, 2, 5] [2] [] ⟨[(1, .av (.one (.s net))), (2, tP 2 0), (5, tI 0)], [(2, .cells (TBoard.c b) 62)]⟩ .nil (by kernel_rfl) .nil ?_
  refine ath_n ?_
  refine aw_seq ?_
  refine aw_seq ?_
  refine aw_region eqok [] [] [] [1, 2, 5, 6] [2] [] ⟨[(1, .av (.one (.s net))), (2, tP 2 0), (5, tI 0), (6, tI 0)], [(2, .cells (TBoard.c b) 62)]⟩ .nil (by kernel_rfl) .nil ?_
  refine ath_n ?_
  refine aw_block ?_
  refine aw_loopC (ι := Nat × Int × Int) (fun x => ⟨[(1, .av (.one (.s net))), (2, tP 2 0), (5, tI x.2.1), (6, tI x.2.2)], [(2, .cells (TBoard.c b) 62)]⟩) (fun x => ((b.Tracks.length : Int) - x.2.2).toNat < x.1 ∧ (0 ≤ x.2.2 ∧ 0 ≤ x.2.2) ∧ FrefNet_l0 b net x.1 x.2.1 x.2.2 = FrefNet b net) (fun x => x.1) ?_ (((b.Tracks.length : Int) - 0).toNat + 1, 0, 0) ⟨Nat.lt_succ_self _, ⟨(by show 0 ≤ 0; first | trivial | omega | (simp only [List.length_append, List.length_cons, List.length_nil]; omega) | (simp only [List.length_set, List.length_append, List.length_cons, List.length_nil]; omega) | (simp only [W64_def]; omega) | (simp; omega) | simp), (by show 0 ≤ 0; first | trivial | omega | (simp only [List.length_append, List.length_cons, List.length_nil]; omega) | (simp only [List.length_set, List.length_append, List.length_cons, List.length_nil]; omega) | (simp only [W64_def]; omega) | (simp; omega) | simp)⟩, (by simp only [FrefNet, cond_true, cond_false])⟩
  rintro ⟨n0, out, k⟩ ⟨hn, hinv, hF⟩
  have hm0 : ((b.Tracks.length : Int) - k).toNat < n0 := hn; have hinv0 : 0 ≤ k ∧ 0 ≤ k := hinv; have hF0 : FrefNet_l0 b net n0 out k = FrefNet b net := hF; clear hn hinv hF
  cases n0 with
  | zero => exact absurd hm0 (Nat.not_lt_zero _)
  | succ n0 =>
    refine aw_seq ?_
    refine aw_seq ?_
    refine aw_region eqok [] [] [] [1, 2, 5, 6, 15] [2] [((decide ((k : Int) < ((b.Tracks.length : Int)))) = true) → ((decide ((k : Int) < ((b.Tracks.length : Int)))) = true), (decide ((k : Int) < ((b.Tracks.length : Int)))) = true → ((decide ((k : Int) < ((b.Tracks.length : Int)))) = true)] ⟨[(1, .av (.one (.s net))), (2, tP 2 0), (5, tI out), (6, tI k), (15, tB (bif decide ((k : Int) < ((b.Tracks.length : Int))) then !(net.toList == (({ data := #[] } : ByteArray)).toList) else false))], [(2, .cells (TBoard.c b) 62)]⟩ .nil (by kernel_rfl) (.cons id (.cons id .nil)) ?_
    refine ath_n ?_
    refine aw_cond (bif decide ((k : Int) < ((b.Tracks.length : Int))) then !(net.toList == (({ data := #[] } : ByteArray)).toList) else false) (by kernel_rfl) (fun h1 => ?_) (fun h1 => ?_)
    · have g1 := and_dec1 h1
      refine aw_skip ?_
      refine ath_n ?_
      refine aw_seq ?_
      refine aw_joinC (⟨[(1, .av (.one (.s net))), (2, tP 2 0), (5, tI (bif wrefNet_1 b k net then (W64 (out + (FrefShape ((b.Tracks.getD k.toNat default).Shape)))) else out)), (6, tI k)], [(2, .cells (TBoard.c b) 62)]⟩) ?_ ?_
      · refine aw_block ?_
        refine aw_seq ?_
        refine aw_region eqok [] [] [] [1, 2, 5, 6, 25] [2] [0 ≤ (k : Int) ∧ (k : Int) < ((b.Tracks.length : Nat) : Int)] ⟨[(1, .av (.one (.s net))), (2, tP 2 0), (5, tI out), (6, tI k), (25, tB (wrefNet_1 b k net))], [(2, .cells (TBoard.c b) 62)]⟩ .nil (by kernel_rfl) (.cons (by first | decide | omega | exact idx_tmod (by first | omega | (simp only [W64_def]; omega)) (by omega) | (simp only [W64_def]; omega) | (constructor <;> omega) | (simp only [List.length_append, List.length_cons, List.length_nil]; omega) | (simp only [List.length_append, List.length_cons, List.length_nil, List.length_drop, List.length_take] at *; omega)) .nil) ?_
        refine ath_n ?_
        refine aw_cond (wrefNet_1 b k net) (by kernel_rfl) (fun h2 => ?_) (fun h2 => ?_)
        · refine aw_region eqok [] [] [(33, crefShape ((b.Tracks.getD k.toNat default).Shape))] [1, 2, 5, 6] [2] [0 ≤ (k : Int) ∧ (k : Int) < ((b.Tracks.length : Nat) : Int), Same (crefShape ((b.Tracks.getD k.toNat default).Shape)).2.1] ⟨[(1, .av (.one (.s net))), (2, tP 2 0), (5, tI (W64 (out + (FrefShape ((b.Tracks.getD k.toNat default).Shape))))), (6, tI k)], [(2, .cells (TBoard.c b) 62)]⟩ (.cons (okrefShape ((b.Tracks.getD k.toNat default).Shape) (by first | (exact ht _) | (exact hb1 _) | with_reducible assumption | omega | decide | (simp only [List.length_cons, List.length_nil, List.length_append]; omega) | assumption)) .nil) (by kernel_rfl) (.cons (by first | decide | omega | exact idx_tmod (by first | omega | (simp only [W64_def]; omega)) (by omega) | (simp only [W64_def]; omega) | (constructor <;> omega) | (simp only [List.length_append, List.length_cons, List.length_nil]; omega) | (simp only [List.length_append, List.length_cons, List.length_nil, List.length_drop, List.length_take] at *; omega)) (.cons rfl .nil)) ?_
          refine abl_n ?_
          refine ath_n ?_
          refine cv_eq ?_
          first | rfl | (simp only [h2, cond_true, cond_false]; done) | (simp only [h2, cond_true, cond_false]; rfl)
        · refine aw_skip ?_
          refine abl_n ?_
          refine ath_n ?_
          refine Cv.trans (cv_keep [1, 2, 5, 6] [2] (⟨[(1, .av (.one (.s net))), (2, tP 2 0), (5, tI out), (6, tI k)], [(2, .cells (TBoard.c b) 62)]⟩) (by kernel_rfl)) (cv_eq ?_)
          first | rfl | (simp only [h2, cond_true, cond_false]; done) | (simp only [h2, cond_true, cond_false]; rfl)
      refine aw_region eqok [] [] [] [1, 2, 5, 6] [2] [] ⟨[(1, .av (.one (.s net))), (2, tP 2 0), (5, tI (bif wrefNet_1 b k net then (W64 (out + (FrefShape ((b.Tracks.getD k.toNat default).Shape)))) else out)), (6, tI (W64 (k + 1)))], [(2, .cells (TBoard.c b) 62)]⟩ .nil (by kernel_rfl) .nil ?_
      (try rw [(show W64 (k + 1) = k + 1 from W64_id (by omega) (by omega))])
      refine ath_n ?_
      refine ⟨(n0, bif wrefNet_1 b k net then (W64 (out + (FrefShape ((b.Tracks.getD k.toNat default).Shape)))) else out, k + 1), ⟨?_, ?_, (by rw [← hF0]; simp only [FrefNet_l0, h1, cond_true, cond_false])⟩, Nat.lt_succ_self _, cv_eq (by kernel_rfl)⟩
      · show ((b.Tracks.length : Int) - (k + 1)).toNat < n0; omega
      · exact ⟨(by show 0 ≤ (k + 1); first | trivial | omega | (simp only [List.length_append, List.length_cons, List.length_nil]; omega) | (simp only [List.length_set, List.length_append, List.length_cons, List.length_nil]; omega) | (simp only [W64_def]; omega) | (simp; omega) | simp), (by show 0 ≤ (k + 1); first | trivial | omega | (simp only [List.length_append, List.length_cons, List.length_nil]; omega) | (simp only [List.length_set, List.length_append, List.length_cons, List.length_nil]; omega) | (simp only [W64_def]; omega) | (simp; omega) | simp)⟩
    · refine aw_exit ?_
      refine ath_e ?_
      refine ath_e ?_
      refine abl_hit ?_
      refine ath_n ?_
      refine aw_seq ?_
      refine aw_region eqok [] [] [] [4] [] [] ⟨[(4, tI out)], []⟩ .nil (by kernel_rfl) .nil ?_
      refine ath_n ?_
      refine aw_ret ?_
      exact ⟨_, Cv.refl _, .inl rfl, .av (.one (.i out)), by kernel_rfl, tve_eq (by rw [← hF0]; first | (simp only [FrefNet_l0, h1, cond_true, cond_false]; done) | (simp only [FrefNet_l0, h1, cond_true, cond_false]; rfl))⟩
theorem okrefNet (b : TBoard) (net : ByteArray) (hb0 : (b.Tracks.length : Int) ≤ 1000000) (hb1 : (∀ i, (((b.Tracks.getD i default).Shape.Edges.length : Int) ≤ 1000000))) : CallOk Try.prog (crefNet b net).1 (crefNet b net).2.1 (crefNet b net).2.2 := callOk_pure (fun _ _ => by kernel_rfl) fun _ => prefNet b net hb0 hb1
def wlenSpread_1 (lengths : List (ByteArray × Int)) (m : TMatch) (v21 : Int) : Bool := mhas eqS lengths (m.Nets.getD v21.toNat default)
def FlenSpread_l0 (b : TBoard) (m : TMatch) : Nat → List (ByteArray × Int) → Int → Int → Int → (Int × Bool)
  | 0, _, _, _, _ => default
  | n0 + 1, lengths, low, high, v21 => bif decide ((v21 : Int) < ((m.Nets.length : Int))) then (bif !(wlenSpread_1 lengths m v21) then ((FlenSpread_l0 b m n0) (mput eqS lengths (m.Nets.getD v21.toNat default) (FlenNet b (m.Nets.getD v21.toNat default))) (min low (FlenNet b (m.Nets.getD v21.toNat default))) (max high (FlenNet b (m.Nets.getD v21.toNat default))) (v21 + 1)) else ((FlenSpread_l0 b m n0) lengths (min low (bif mhas eqS lengths (m.Nets.getD v21.toNat default) then (lengths.getD (mfind eqS lengths (m.Nets.getD v21.toNat default)) default).2 else 0)) (max high (bif mhas eqS lengths (m.Nets.getD v21.toNat default) then (lengths.getD (mfind eqS lengths (m.Nets.getD v21.toNat default)) default).2 else 0)) (v21 + 1))) else ((W64 (high - low), true))
def FlenSpread (b : TBoard) (m : TMatch) : (Int × Bool) := bif decide ((((m.Nets.length : Int)) : Int) = 0) then ((0, false)) else (FlenSpread_l0 b m (((((m.Nets.length : Int))) - 0).toNat + 1) (([] : List (ByteArray × Int))) 9223372036854775807 ((-9223372036854775808)) 0)
def clenSpread (b : TBoard) (m : TMatch) : FuncId × List Av × Ef := (27, [.agg (TBoard.c b), .agg (TMatch.c m)], .val [] (.tup [.one (.i ((FlenSpread b m).1)), .one (.b ((FlenSpread b m).2))]))
set_option maxRecDepth 100000 in
theorem plenSpread (b : TBoard) (m : TMatch) (hb0 : (b.Tracks.length : Int) ≤ 1000000) (hb1 : (∀ i, (((b.Tracks.getD i default).Shape.Edges.length : Int) ≤ 1000000))) (hm : (m.Nets.length : Int) ≤ 1000000) : Pure Try.prog 27 (clenSpread b m).2.1 (.tup [.one (.i ((FlenSpread b m).1)), .one (.b ((FlenSpread b m).2))]) := by
  refine pure_of_awF Try.func27 rfl (by kernel_rfl) (by kernel_rfl) fun W0 M0 => ?_
  refine aw_seq ?_
  refine aw_region eqok [] [] [] [2, 3] [2, 3] [] ⟨[(2, tP 2 0), (3, tP 3 0)], [(2, .cells (TBoard.c b) 62), (3, .cells (TMatch.c m) 78)]⟩ .nil (by kernel_rfl) .nil ?_
  refine ath_n ?_
  refine aw_seq ?_
  refine aw_seq ?_
  refine aw_region eqok [] [] [] [2, 3, 16] [2, 3] [] ⟨[(2, tP 2 0), (3, tP 3 0), (16, tB (decide ((((m.Nets.length : Int)) : Int) = 0)))], [(2, .cells (TBoard.c b) 62), (3, .cells (TMatch.c m) 78)]⟩ .nil (by kernel_rfl) .nil ?_
  refine ath_n ?_
  refine aw_cond (decide ((((m.Nets.length : Int)) : Int) = 0)) (by kernel_rfl) (fun h1 => ?_) (fun h1 => ?_)
  · have g1 := of_decide_eq_true h1
    refine aw_seq ?_
    refine aw_region eqok [] [] [] [4, 5] [] [] ⟨[(4, tI 0), (5, tB false)], []⟩ .nil (by kernel_rfl) .nil ?_
    refine ath_n ?_
    refine aw_ret ?_
    refine ath_r ?_
    exact ⟨_, Cv.refl _, .inl rfl, .tup [.one (.i 0), .one (.b false)], by kernel_rfl, tve_eq (by first | (simp only [FlenSpread, h1, cond_true, cond_false]; done) | (simp only [FlenSpread, h1, cond_true, cond_false]; rfl))⟩
  · have g1 := of_decide_eq_false h1
    refine aw_skip ?_
    refine ath_n ?_
    refine aw_seq ?_
    refine aw_region eqok [] [] [] [2, 3, 6] [2, 3, 17] [] ⟨[(2, tP 2 0), (3, tP 3 0), (6, .av (.one (.om 17)))], [(2, .cells (TBoard.c b) 62), (3, .cells (TMatch.c m) 78), (17, .omap false 1 0 (fun _ => undef) (fun _ _ => default))]⟩ .nil (by kernel_rfl) .nil ?_
    refine ath_n ?_
    refine aw_cv (Cv.trans (cv_ce (⟨[(2, tP 2 0), (3, tP 3 0), (6, .av (.one (.om 17)))], [(2, .cells (TBoard.c b) 62), (3, .cells (TMatch.c m) 78), (17, .omap false 1 ((([] : List (ByteArray × Int))).length) (kfG Value.string (([] : List (ByteArray × Int)))) (vfG (fun x => [.i x]) (([] : List (ByteArray × Int)))))]⟩) (.cons ⟨rfl, .refl _⟩ (.cons ⟨rfl, .refl _⟩ (.cons ⟨rfl, .refl _⟩ .nil))) (.cons ⟨rfl, .refl _⟩ (.cons ⟨rfl, .refl _⟩ (.cons ⟨rfl, bke_mnew (ck := Value.string) (cv := (fun x => [.i x]))⟩ .nil)))) (Cv.refl _)) ?_
    refine aw_seq ?_
    refine aw_region eqok [] [] [] [2, 3, 6, 7, 8] [2, 3, 17] [] ⟨[(2, tP 2 0), (3, tP 3 0), (6, .av (.one (.om 17))), (7, tI 9223372036854775807), (8, tI ((-9223372036854775808)))], [(2, .cells (TBoard.c b) 62), (3, .cells (TMatch.c m) 78), (17, .omap false 1 ((([] : List (ByteArray × Int))).length) (kfG Value.string (([] : List (ByteArray × Int)))) (vfG (fun x => [.i x]) (([] : List (ByteArray × Int)))))]⟩ .nil (by kernel_rfl) .nil ?_
    refine ath_n ?_
    refine aw_seq ?_
    refine aw_seq ?_
    refine aw_region eqok [] [] [] [2, 6, 7, 8, 19, 20, 21] [2, 17] [] ⟨[(2, tP 2 0), (6, .av (.one (.om 17))), (7, tI 9223372036854775807), (8, tI ((-9223372036854775808))), (19, .av (.one (lst 1 (fun x => [.s x]) m.Nets))), (20, tI ((m.Nets.length : Int))), (21, tI 0)], [(2, .cells (TBoard.c b) 62), (17, .omap false 1 ((([] : List (ByteArray × Int))).length) (kfG Value.string (([] : List (ByteArray × Int)))) (vfG (fun x => [.i x]) (([] : List (ByteArray × Int)))))]⟩ .nil (by kernel_rfl) .nil ?_
    refine ath_n ?_
    refine aw_block ?_
    refine aw_loopC (ι := Nat × List (ByteArray × Int) × Int × Int × Int) (fun x => ⟨[(2, tP 2 0), (6, .av (.one (.om 17))), (7, tI x.2.2.1), (8, tI x.2.2.2.1), (19, .av (.one (lst 1 (fun x => [.s x]) m.Nets))), (20, tI ((m.Nets.length : Int))), (21, tI x.2.2.2.2)], [(2, .cells (TBoard.c b) 62), (17, .omap false 1 x.2.1.length (kfG Value.string x.2.1) (vfG (fun x => [.i x]) x.2.1))]⟩) (fun x => ((((m.Nets.length : Int))) - x.2.2.2.2).toNat < x.1 ∧ (0 ≤ x.2.2.2.2 ∧ (x.2.2.2.2 ≤ ((m.Nets.length : Int)) ∨ x.2.2.2.2 = 0)) ∧ FlenSpread_l0 b m x.1 x.2.1 x.2.2.1 x.2.2.2.1 x.2.2.2.2 = FlenSpread b m) (fun x => x.1) ?_ (((((m.Nets.length : Int))) - 0).toNat + 1, ([] : List (ByteArray × Int)), 9223372036854775807, (-9223372036854775808), 0) ⟨Nat.lt_succ_self _, ⟨(by show 0 ≤ 0; first | trivial | omega | (simp only [List.length_append, List.length_cons, List.length_nil]; omega) | (simp only [List.length_set, List.length_append, List.length_cons, List.length_nil]; omega) | (simp only [W64_def]; omega) | (simp; omega) | simp), (by show (0 ≤ ((m.Nets.length : Int)) ∨ 0 = 0); first | trivial | omega | (simp only [List.length_append, List.length_cons, List.length_nil]; omega) | (simp only [List.length_set, List.length_append, List.length_cons, List.length_nil]; omega) | (simp only [W64_def]; omega) | (simp; omega) | simp)⟩, (by simp only [FlenSpread, h1, cond_true, cond_false])⟩
    rintro ⟨n0, lengths, low, high, v21⟩ ⟨hn, hinv, hF⟩
    have hm0 : ((((m.Nets.length : Int))) - v21).toNat < n0 := hn; have hinv0 : 0 ≤ v21 ∧ (v21 ≤ ((m.Nets.length : Int)) ∨ v21 = 0) := hinv; have hF0 : FlenSpread_l0 b m n0 lengths low high v21 = FlenSpread b m := hF; clear hn hinv hF
    cases n0 with
    | zero => exact absurd hm0 (Nat.not_lt_zero _)
    | succ n0 =>
      refine aw_seq ?_
      refine aw_region eqok [] [] [] [2, 6, 7, 8, 19, 20, 21, 22] [2, 17] [] ⟨[(2, tP 2 0), (6, .av (.one (.om 17))), (7, tI low), (8, tI high), (19, .av (.one (lst 1 (fun x => [.s x]) m.Nets))), (20, tI ((m.Nets.length : Int))), (21, tI v21), (22, tB (decide ((v21 : Int) < ((m.Nets.length : Int)))))], [(2, .cells (TBoard.c b) 62), (17, .omap false 1 lengths.length (kfG Value.string lengths) (vfG (fun x => [.i x]) lengths))]⟩ .nil (by kernel_rfl) .nil ?_
      refine ath_n ?_
      refine aw_seq ?_
      refine aw_cond (decide ((v21 : Int) < ((m.Nets.length : Int)))) (by kernel_rfl) (fun h2 => ?_) (fun h2 => ?_)
      · have g2 := of_decide_eq_true h2
        refine aw_skip ?_
        refine ath_n ?_
        refine aw_seq ?_
        refine aw_block ?_
        refine aw_seq ?_
        refine aw_region eqok [] [] [] [2, 6, 7, 8, 10, 19, 20, 21] [2, 17] [0 ≤ (v21 : Int) ∧ (v21 : Int) < ((m.Nets.length : Nat) : Int)] ⟨[(2, tP 2 0), (6, .av (.one (.om 17))), (7, tI low), (8, tI high), (10, .av (.one (.s (m.Nets.getD v21.toNat default)))), (19, .av (.one (lst 1 (fun x => [.s x]) m.Nets))), (20, tI ((m.Nets.length : Int))), (21, tI v21)], [(2, .cells (TBoard.c b) 62), (17, .omap false 1 lengths.length (kfG Value.string lengths) (vfG (fun x => [.i x]) lengths))]⟩ .nil (by kernel_rfl) (.cons (by first | decide | omega | exact idx_tmod (by first | omega | (simp only [W64_def]; omega)) (by omega) | (simp only [W64_def]; omega) | (constructor <;> omega) | (simp only [List.length_append, List.length_cons, List.length_nil]; omega) | (simp only [List.length_append, List.length_cons, List.length_nil, List.length_drop, List.length_take] at *; omega)) .nil) ?_
        refine ath_n ?_
        refine aw_seq ?_
        refine aw_region eqok [] [(28, ((mhas eqS lengths (m.Nets.getD v21.toNat default)), (mfind eqS lengths (m.Nets.getD v21.toNat default))))] [] [2, 6, 7, 8, 10, 11, 12, 19, 20, 21] [2, 17] [LookK Try.prog eqE 9 (lengths).length (kfG Value.string lengths) (Value.string (m.Nets.getD v21.toNat default)) (mhas eqS lengths (m.Nets.getD v21.toNat default)) (mfind eqS lengths (m.Nets.getD v21.toNat default))] ⟨[(2, tP 2 0), (6, .av (.one (.om 17))), (7, tI low), (8, tI high), (10, .av (.one (.s (m.Nets.getD v21.toNat default)))), (11, tI (bif mhas eqS lengths (m.Nets.getD v21.toNat default) then (lengths.getD (mfind eqS lengths (m.Nets.getD v21.toNat default)) default).2 else 0)), (12, tB (wlenSpread_1 lengths m v21)), (19, .av (.one (lst 1 (fun x => [.s x]) m.Nets))), (20, tI ((m.Nets.length : Int))), (21, tI v21)], [(2, .cells (TBoard.c b) 62), (17, .omap false 1 lengths.length (kfG Value.string lengths) (vfG (fun x => [.i x]) lengths))]⟩ .nil (by kernel_rfl) (.cons (lookK_of eqS_ok (fit_str Try.underlying9) _ _) .nil) ?_
        refine ath_n ?_
        refine aw_seq ?_
        refine aw_seq ?_
        refine aw_region eqok [] [] [] [2, 6, 7, 8, 10, 11, 19, 20, 21, 32] [2, 17] [] ⟨[(2, tP 2 0), (6, .av (.one (.om 17))), (7, tI low), (8, tI high), (10, .av (.one (.s (m.Nets.getD v21.toNat default)))), (11, tI (bif mhas eqS lengths (m.Nets.getD v21.toNat default) then (lengths.getD (mfind eqS lengths (m.Nets.getD v21.toNat default)) default).2 else 0)), (19, .av (.one (lst 1 (fun x => [.s x]) m.Nets))), (20, tI ((m.Nets.length : Int))), (21, tI v21), (32, tB (!(wlenSpread_1 lengths m v21)))], [(2, .cells (TBoard.c b) 62), (17, .omap false 1 lengths.length (kfG Value.string lengths) (vfG (fun x => [.i x]) lengths))]⟩ .nil (by kernel_rfl) .nil ?_
        refine ath_n ?_
        refine aw_cond (!(wlenSpread_1 lengths m v21)) (by kernel_rfl) (fun h3 => ?_) (fun h3 => ?_)
        · refine aw_seq ?_
          refine aw_region eqok [] [] [(35, clenNet b (m.Nets.getD v21.toNat default))] [2, 6, 7, 8, 10, 11, 19, 20, 21] [2, 17] [Same (clenNet b (m.Nets.getD v21.toNat default)).2.1] ⟨[(2, tP 2 0), (6, .av (.one (.om 17))), (7, tI low), (8, tI high), (10, .av (.one (.s (m.Nets.getD v21.toNat default)))), (11, tI (FlenNet b (m.Nets.getD v21.toNat default))), (19, .av (.one (lst 1 (fun x => [.s x]) m.Nets))), (20, tI ((m.Nets.length : Int))), (21, tI v21)], [(2, .cells (TBoard.c b) 62), (17, .omap false 1 lengths.length (kfG Value.string lengths) (vfG (fun x => [.i x]) lengths))]⟩ (.cons (oklenNet b (m.Nets.getD v21.toNat default) (by first | (exact ht _) | (exact hb1 _) | with_reducible assumption | omega | decide | (simp only [List.length_cons, List.length_nil, List.length_append]; omega) | assumption) (by first | (exact ht _) | (exact hb1 _) | with_reducible assumption | omega | decide | (simp only [List.length_cons, List.length_nil, List.length_append]; omega) | assumption)) .nil) (by kernel_rfl) (.cons rfl .nil) ?_
          refine ath_n ?_
          refine aw_region eqok [] [(999999, ((mhas eqS lengths (m.Nets.getD v21.toNat default)), (mfind eqS lengths (m.Nets.getD v21.toNat default))))] [] [2, 6, 7, 8, 11, 19, 20, 21] [2, 17] [LookK Try.prog eqE 9 (lengths).length (kfG Value.string lengths) (Value.string (m.Nets.getD v21.toNat default)) (mhas eqS lengths (m.Nets.getD v21.toNat default)) (mfind eqS lengths (m.Nets.getD v21.toNat default))] ⟨[(2, tP 2 0), (6, .av (.one (.om 17))), (7, tI low), (8, tI high), (11, tI (FlenNet b (m.Nets.getD v21.toNat default))), (19, .av (.one (lst 1 (fun x => [.s x]) m.Nets))), (20, tI ((m.Nets.length : Int))), (21, tI v21)], [(2, .cells (TBoard.c b) 62), (17, .omap false 1 (bif mhas eqS lengths (m.Nets.getD v21.toNat default) then (lengths).length else (lengths).length + 1) (fun j => bif Nat.beq j (bif mhas eqS lengths (m.Nets.getD v21.toNat default) then mfind eqS lengths (m.Nets.getD v21.toNat default) else (lengths).length) then Value.string (m.Nets.getD v21.toNat default) else kfG Value.string lengths j) (fun j c => bif Nat.beq j (bif mhas eqS lengths (m.Nets.getD v21.toNat default) then mfind eqS lengths (m.Nets.getD v21.toNat default) else (lengths).length) then ([.i (FlenNet b (m.Nets.getD v21.toNat default))] : List Cl).getD c default else vfG (fun x => [.i x]) lengths j c))]⟩ .nil (by kernel_rfl) (.cons (lookK_of eqS_ok (fit_str Try.underlying9) _ _) .nil) ?_
          refine ath_n ?_
          refine aw_cv (Cv.trans (cv_ce (⟨[(2, tP 2 0), (6, .av (.one (.om 17))), (7, tI low), (8, tI high), (11, tI (FlenNet b (m.Nets.getD v21.toNat default))), (19, .av (.one (lst 1 (fun x => [.s x]) m.Nets))), (20, tI ((m.Nets.length : Int))), (21, tI v21)], [(2, .cells (TBoard.c b) 62), (17, .omap false 1 ((mput eqS lengths (m.Nets.getD v21.toNat default) (FlenNet b (m.Nets.getD v21.toNat default))).length) (kfG Value.string (mput eqS lengths (m.Nets.getD v21.toNat default) (FlenNet b (m.Nets.getD v21.toNat default)))) (vfG (fun x => [.i x]) (mput eqS lengths (m.Nets.getD v21.toNat default) (FlenNet b (m.Nets.getD v21.toNat default)))))]⟩) (.cons ⟨rfl, .refl _⟩ (.cons ⟨rfl, .refl _⟩ (.cons ⟨rfl, .refl _⟩ (.cons ⟨rfl, .refl _⟩ (.cons ⟨rfl, .refl _⟩ (.cons ⟨rfl, .refl _⟩ (.cons ⟨rfl, .refl _⟩ (.cons ⟨rfl, .refl _⟩ .nil)))))))) (.cons ⟨rfl, .refl _⟩ (.cons ⟨rfl, bke_mput (ck := Value.string) (cv := (fun x => [.i x])) (eq := eqS) lengths (m.Nets.getD v21.toNat default) (FlenNet b (m.Nets.getD v21.toNat default)) [.i (FlenNet b (m.Nets.getD v21.toNat default))] rfl⟩ .nil))) (Cv.refl _)) ?_
          refine aw_region eqok [] [] [] [2, 6, 7, 8, 19, 20, 21] [2, 17] [] ⟨[(2, tP 2 0), (6, .av (.one (.om 17))), (7, tI (min low (FlenNet b (m.Nets.getD v21.toNat default)))), (8, tI (max high (FlenNet b (m.Nets.getD v21.toNat default)))), (19, .av (.one (lst 1 (fun x => [.s x]) m.Nets))), (20, tI ((m.Nets.length : Int))), (21, tI v21)], [(2, .cells (TBoard.c b) 62), (17, .omap false 1 ((mput eqS lengths (m.Nets.getD v21.toNat default) (FlenNet b (m.Nets.getD v21.toNat default))).length) (kfG Value.string (mput eqS lengths (m.Nets.getD v21.toNat default) (FlenNet b (m.Nets.getD v21.toNat default)))) (vfG (fun x => [.i x]) (mput eqS lengths (m.Nets.getD v21.toNat default) (FlenNet b (m.Nets.getD v21.toNat default)))))]⟩ .nil (by kernel_rfl) .nil ?_
          refine abl_n ?_
          refine ath_n ?_
          refine aw_region eqok [] [] [] [2, 6, 7, 8, 19, 20, 21] [2, 17] [] ⟨[(2, tP 2 0), (6, .av (.one (.om 17))), (7, tI (min low (FlenNet b (m.Nets.getD v21.toNat default)))), (8, tI (max high (FlenNet b (m.Nets.getD v21.toNat default)))), (19, .av (.one (lst 1 (fun x => [.s x]) m.Nets))), (20, tI ((m.Nets.length : Int))), (21, tI (W64 (v21 + 1)))], [(2, .cells (TBoard.c b) 62), (17, .omap false 1 ((mput eqS lengths (m.Nets.getD v21.toNat default) (FlenNet b (m.Nets.getD v21.toNat default))).length) (kfG Value.string (mput eqS lengths (m.Nets.getD v21.toNat default) (FlenNet b (m.Nets.getD v21.toNat default)))) (vfG (fun x => [.i x]) (mput eqS lengths (m.Nets.getD v21.toNat default) (FlenNet b (m.Nets.getD v21.toNat default)))))]⟩ .nil (by kernel_rfl) .nil ?_
          (try rw [(show W64 (v21 + 1) = v21 + 1 from W64_id (by omega) (by first | omega | (simp only [List.length_drop, List.length_take] at *; omega)))])
          refine ath_n ?_
          refine ⟨(n0, mput eqS lengths (m.Nets.getD v21.toNat default) (FlenNet b (m.Nets.getD v21.toNat default)), min low (FlenNet b (m.Nets.getD v21.toNat default)), max high (FlenNet b (m.Nets.getD v21.toNat default)), v21 + 1), ⟨?_, ?_, (by rw [← hF0]; simp only [FlenSpread_l0, h2, h3, cond_true, cond_false])⟩, Nat.lt_succ_self _, cv_eq (by kernel_rfl)⟩
          · show ((((m.Nets.length : Int))) - (v21 + 1)).toNat < n0; omega
          · exact ⟨(by show 0 ≤ (v21 + 1); first | trivial | omega | (simp only [List.length_append, List.length_cons, List.length_nil]; omega) | (simp only [List.length_set, List.length_append, List.length_cons, List.length_nil]; omega) | (simp only [W64_def]; omega) | (simp; omega) | simp), (by show ((v21 + 1) ≤ ((m.Nets.length : Int)) ∨ (v21 + 1) = 0); first | trivial | omega | (simp only [List.length_append, List.length_cons, List.length_nil]; omega) | (simp only [List.length_set, List.length_append, List.length_cons, List.length_nil]; omega) | (simp only [W64_def]; omega) | (simp; omega) | simp)⟩
        · refine aw_skip ?_
          refine ath_n ?_
          refine aw_region eqok [] [] [] [2, 6, 7, 8, 19, 20, 21] [2, 17] [] ⟨[(2, tP 2 0), (6, .av (.one (.om 17))), (7, tI (min low (bif mhas eqS lengths (m.Nets.getD v21.toNat default) then (lengths.getD (mfind eqS lengths (m.Nets.getD v21.toNat default)) default).2 else 0))), (8, tI (max high (bif mhas eqS lengths (m.Nets.getD v21.toNat default) then (lengths.getD (mfind eqS lengths (m.Nets.getD v21.toNat default)) default).2 else 0))), (19, .av (.one (lst 1 (fun x => [.s x]) m.Nets))), (20, tI ((m.Nets.length : Int))), (21, tI v21)], [(2, .cells (TBoard.c b) 62), (17, .omap false 1 lengths.length (kfG Value.string lengths) (vfG (fun x => [.i x]) lengths))]⟩ .nil (by kernel_rfl) .nil ?_
          refine abl_n ?_
          refine ath_n ?_
          refine aw_region eqok [] [] [] [2, 6, 7, 8, 19, 20, 21] [2, 17] [] ⟨[(2, tP 2 0), (6, .av (.one (.om 17))), (7, tI (min low (bif mhas eqS lengths (m.Nets.getD v21.toNat default) then (lengths.getD (mfind eqS lengths (m.Nets.getD v21.toNat default)) default).2 else 0))), (8, tI (max high (bif mhas eqS lengths (m.Nets.getD v21.toNat default) then (lengths.getD (mfind eqS lengths (m.Nets.getD v21.toNat default)) default).2 else 0))), (19, .av (.one (lst 1 (fun x => [.s x]) m.Nets))), (20, tI ((m.Nets.length : Int))), (21, tI (W64 (v21 + 1)))], [(2, .cells (TBoard.c b) 62), (17, .omap false 1 lengths.length (kfG Value.string lengths) (vfG (fun x => [.i x]) lengths))]⟩ .nil (by kernel_rfl) .nil ?_
          (try rw [(show W64 (v21 + 1) = v21 + 1 from W64_id (by omega) (by first | omega | (simp only [List.length_drop, List.length_take] at *; omega)))])
          refine ath_n ?_
          refine ⟨(n0, lengths, min low (bif mhas eqS lengths (m.Nets.getD v21.toNat default) then (lengths.getD (mfind eqS lengths (m.Nets.getD v21.toNat default)) default).2 else 0), max high (bif mhas eqS lengths (m.Nets.getD v21.toNat default) then (lengths.getD (mfind eqS lengths (m.Nets.getD v21.toNat default)) default).2 else 0), v21 + 1), ⟨?_, ?_, (by rw [← hF0]; simp only [FlenSpread_l0, h2, h3, cond_true, cond_false])⟩, Nat.lt_succ_self _, cv_eq (by kernel_rfl)⟩
          · show ((((m.Nets.length : Int))) - (v21 + 1)).toNat < n0; omega
          · exact ⟨(by show 0 ≤ (v21 + 1); first | trivial | omega | (simp only [List.length_append, List.length_cons, List.length_nil]; omega) | (simp only [List.length_set, List.length_append, List.length_cons, List.length_nil]; omega) | (simp only [W64_def]; omega) | (simp; omega) | simp), (by show ((v21 + 1) ≤ ((m.Nets.length : Int)) ∨ (v21 + 1) = 0); first | trivial | omega | (simp only [List.length_append, List.length_cons, List.length_nil]; omega) | (simp only [List.length_set, List.length_append, List.length_cons, List.length_nil]; omega) | (simp only [W64_def]; omega) | (simp; omega) | simp)⟩
      · have g2 := of_decide_eq_false h2
        refine aw_exit ?_
        refine ath_e ?_
        refine ath_e ?_
        refine abl_hit ?_
        refine ath_n ?_
        refine aw_seq ?_
        refine aw_region eqok [] [] [] [4, 5] [] [] ⟨[(4, tI (W64 (high - low))), (5, tB true)], []⟩ .nil (by kernel_rfl) .nil ?_
        refine ath_n ?_
        refine aw_ret ?_
        exact ⟨_, Cv.refl _, .inl rfl, .tup [.one (.i (W64 (high - low))), .one (.b true)], by kernel_rfl, tve_eq (by rw [← hF0]; first | (simp only [FlenSpread_l0, h2, cond_true, cond_false]; done) | (simp only [FlenSpread_l0, h2, cond_true, cond_false]; rfl))⟩
theorem oklenSpread (b : TBoard) (m : TMatch) (hb0 : (b.Tracks.length : Int) ≤ 1000000) (hb1 : (∀ i, (((b.Tracks.getD i default).Shape.Edges.length : Int) ≤ 1000000))) (hm : (m.Nets.length : Int) ≤ 1000000) : CallOk Try.prog (clenSpread b m).1 (clenSpread b m).2.1 (clenSpread b m).2.2 := callOk_pure (fun _ _ => by kernel_rfl) fun _ => plenSpread b m hb0 hb1 hm
def FrefSpread_l0 (b : TBoard) (m : TMatch) : Nat → Int → Int → Int → (Int × Bool)
  | 0, _, _, _ => default
  | n0 + 1, low, high, k => bif decide ((k : Int) < ((m.Nets.length : Int))) then ((FrefSpread_l0 b m n0) (min low (FrefNet b (m.Nets.getD k.toNat default))) (max high (FrefNet b (m.Nets.getD k.toNat default))) (k + 1)) else ((W64 (high - low), true))
def FrefSpread (b : TBoard) (m : TMatch) : (Int × Bool) := bif decide ((((m.Nets.length : Int)) : Int) = 0) then ((0, false)) else (FrefSpread_l0 b m (((((m.Nets.length : Int))) - 1).toNat + 1) (FrefNet b (m.Nets.getD 0 default)) (FrefNet b (m.Nets.getD 0 default)) 1)
def crefSpread (b : TBoard) (m : TMatch) : FuncId × List Av × Ef := (28, [.agg (TBoard.c b), .agg (TMatch.c m)], .val [] (.tup [.one (.i ((FrefSpread b m).1)), .one (.b ((FrefSpread b m).2))]))
set_option maxRecDepth 100000 in
theorem prefSpread (b : TBoard) (m : TMatch) (hb0 : (b.Tracks.length : Int) ≤ 1000000) (hb1 : (∀ i, (((b.Tracks.getD i default).Shape.Edges.length : Int) ≤ 1000000))) (hm : (m.Nets.length : Int) ≤ 1000000) : Pure Try.prog 28 (crefSpread b m).2.1 (.tup [.one (.i ((FrefSpread b m).1)), .one (.b ((FrefSpread b m).2))]) := by
  refine pure_of_awF Try.func28 rfl (by kernel_rfl) (by kernel_rfl) fun W0 M0 => ?_
  refine aw_seq ?_
  refine aw_region eqok [] [] [] [2, 3] [2, 3] [] ⟨[(2, tP 2 0), (3, tP 3 0)], [(2, .cells (TBoard.c b) 62), (3, .cells (TMatch.c m) 78)]⟩ .nil (by kernel_rfl) .nil ?_
  refine ath_n ?_
  refine aw_seq ?_
  refine aw_seq ?_
  refine aw_region eqok [] [] [] [2, 3, 13] [2, 3] [] ⟨[(2, tP 2 0), (3, tP 3 0), (13, tB (decide ((((m.Nets.length : Int)) : Int) = 0)))], [(2, .cells (TBoard.c b) 62), (3, .cells (TMatch.c m) 78)]⟩ .nil (by kernel_rfl) .nil ?_
  refine ath_n ?_
  refine aw_cond (decide ((((m.Nets.length : Int)) : Int) = 0)) (by kernel_rfl) (fun h1 => ?_) (fun h1 => ?_)
  · have g1 := of_decide_eq_true h1
    refine aw_seq ?_
    refine aw_region eqok [] [] [] [4, 5] [] [] ⟨[(4, tI 0), (5, tB false)], []⟩ .nil (by kernel_rfl) .nil ?_
    refine ath_n ?_
    refine aw_ret ?_
    refine ath_r ?_
    exact ⟨_, Cv.refl _, .inl rfl, .tup [.one (.i 0), .one (.b false)], by kernel_rfl, tve_eq (by first | (simp only [FrefSpread, h1, cond_true, cond_false]; done) | (simp only [FrefSpread, h1, cond_true, cond_false]; rfl))⟩
  · have g1 := of_decide_eq_false h1
    refine aw_skip ?_
    refine ath_n ?_
    refine aw_seq ?_
    refine aw_draw mixed eqok [] [] [(19, crefNet b (m.Nets.getD 0 default))] [2, 3, 6] [2, 3] [0 ≤ (0 : Int) ∧ (0 : Int) < ((m.Nets.length : Nat) : Int), Same (crefNet b (m.Nets.getD 0 default)).2.1] ⟨[(2, tP 2 0), (3, tP 3 0), (6, tI (FrefNet b (m.Nets.getD 0 default)))], [(2, .cells (TBoard.c b) 62), (3, .cells (TMatch.c m) 78)]⟩ (.cons (okrefNet b (m.Nets.getD 0 default) (by first | (exact ht _) | (exact hb1 _) | with_reducible assumption | omega | decide | (simp only [List.length_cons, List.length_nil, List.length_append]; omega) | assumption) (by first | (exact ht _) | (exact hb1 _) | with_reducible assumption | omega | decide | (simp only [List.length_cons, List.length_nil, List.length_append]; omega) | assumption)) .nil) (by kernel_rfl) (by kernel_rfl) (.cons (by first | decide | omega | exact idx_tmod (by first | omega | (simp only [W64_def]; omega)) (by omega) | (simp only [W64_def]; omega) | (constructor <;> omega) | (simp only [List.length_append, List.length_cons, List.length_nil]; omega) | (simp only [List.length_append, List.length_cons, List.length_nil, List.length_drop, List.length_take] at *; omega)) (.cons rfl .nil)) ?_
    refine ath_n ?_
    refine aw_seq ?_
    refine aw_region eqok [] [] [] [2, 3, 6, 7] [2, 3] [] ⟨[(2, tP 2 0), (3, tP 3 0), (6, tI (FrefNet b (m.Nets.getD 0 default))), (7, tI (FrefNet b (m.Nets.getD 0 default)))], [(2, .cells (TBoard.c b) 62), (3, .cells (TMatch.c m) 78)]⟩ .nil (by kernel_rfl) .nil ?_
    refine ath_n ?_
    refine aw_seq ?_
    refine aw_seq ?_
    refine aw_region eqok [] [] [] [2, 3, 6, 7, 8] [2, 3] [] ⟨[(2, tP 2 0), (3, tP 3 0), (6, tI (FrefNet b (m.Nets.getD 0 default))), (7, tI (FrefNet b (m.Nets.getD 0 default))), (8, tI 1)], [(2, .cells (TBoard.c b) 62), (3, .cells (TMatch.c m) 78)]⟩ .nil (by kernel_rfl) .nil ?_
    refine ath_n ?_
    refine aw_block ?_
    refine aw_loopC (ι := Nat × Int × Int × Int) (fun x => ⟨[(2, tP 2 0), (3, tP 3 0), (6, tI x.2.1), (7, tI x.2.2.1), (8, tI x.2.2.2)], [(2, .cells (TBoard.c b) 62), (3, .cells (TMatch.c m) 78)]⟩) (fun x => ((((m.Nets.length : Int))) - x.2.2.2).toNat < x.1 ∧ (1 ≤ x.2.2.2 ∧ (x.2.2.2 ≤ ((m.Nets.length : Int)) ∨ x.2.2.2 = 1)) ∧ FrefSpread_l0 b m x.1 x.2.1 x.2.2.1 x.2.2.2 = FrefSpread b m) (fun x => x.1) ?_ (((((m.Nets.length : Int))) - 1).toNat + 1, FrefNet b (m.Nets.getD 0 default), FrefNet b (m.Nets.getD 0 default), 1) ⟨Nat.lt_succ_self _, ⟨(by show 1 ≤ 1; first | trivial | omega | (simp only [List.length_append, List.length_cons, List.length_nil]; omega) | (simp only [List.length_set, List.length_append, List.length_cons, List.length_nil]; omega) | (simp only [W64_def]; omega) | (simp; omega) | simp), (by show (1 ≤ ((m.Nets.length : Int)) ∨ 1 = 1); first | trivial | omega | (simp only [List.length_append, List.length_cons, List.length_nil]; omega) | (simp only [List.length_set, List.length_append, List.length_cons, List.length_nil]; omega) | (simp only [W64_def]; omega) | (simp; omega) | simp)⟩, (by simp only [FrefSpread, h1, cond_true, cond_false])⟩
    rintro ⟨n0, low, high, k⟩ ⟨hn, hinv, hF⟩
    have hm0 : ((((m.Nets.length : Int))) - k).toNat < n0 := hn; have hinv0 : 1 ≤ k ∧ (k ≤ ((m.Nets.length : Int)) ∨ k = 1) := hinv; have hF0 : FrefSpread_l0 b m n0 low high k = FrefSpread b m := hF; clear hn hinv hF
    cases n0 with
    | zero => exact absurd hm0 (Nat.not_lt_zero _)
    | succ n0 =>
      refine aw_seq ?_
      refine aw_seq ?_
      refine aw_region eqok [] [] [] [2, 3, 6, 7, 8, 25] [2, 3] [] ⟨[(2, tP 2 0), (3, tP 3 0), (6, tI low), (7, tI high), (8, tI k), (25, tB (decide ((k : Int) < ((m.Nets.length : Int)))))], [(2, .cells (TBoard.c b) 62), (3, .cells (TMatch.c m) 78)]⟩ .nil (by kernel_rfl) .nil ?_
      refine ath_n ?_
      refine aw_cond (decide ((k : Int) < ((m.Nets.length : Int)))) (by kernel_rfl) (fun h2 => ?_) (fun h2 => ?_)
      · have g2 := of_decide_eq_true h2
        refine aw_skip ?_
        refine ath_n ?_
        refine aw_seq ?_
        refine aw_block ?_
        refine aw_seq ?_
        refine aw_draw mixed eqok [] [] [(34, crefNet b (m.Nets.getD k.toNat default))] [2, 3, 6, 7, 8, 9] [2, 3] [0 ≤ (k : Int) ∧ (k : Int) < ((m.Nets.length : Nat) : Int), Same (crefNet b (m.Nets.getD k.toNat default)).2.1] ⟨[(2, tP 2 0), (3, tP 3 0), (6, tI low), (7, tI high), (8, tI k), (9, tI (FrefNet b (m.Nets.getD k.toNat default)))], [(2, .cells (TBoard.c b) 62), (3, .cells (TMatch.c m) 78)]⟩ (.cons (okrefNet b (m.Nets.getD k.toNat default) (by first | (exact ht _) | (exact hb1 _) | with_reducible assumption | omega | decide | (simp only [List.length_cons, List.length_nil, List.length_append]; omega) | assumption) (by first | (exact ht _) | (exact hb1 _) | with_reducible assumption | omega | decide | (simp only [List.length_cons, List.length_nil, List.length_append]; omega) | assumption)) .nil) (by kernel_rfl) (by kernel_rfl) (.cons (by first | decide | omega | exact idx_tmod (by first | omega | (simp only [W64_def]; omega)) (by omega) | (simp only [W64_def]; omega) | (constructor <;> omega) | (simp only [List.length_append, List.length_cons, List.length_nil]; omega) | (simp only [List.length_append, List.length_cons, List.length_nil, List.length_drop, List.length_take] at *; omega)) (.cons rfl .nil)) ?_
        refine ath_n ?_
        refine aw_seq ?_
        refine aw_region eqok [] [] [] [2, 3, 6, 7, 8, 9] [2, 3] [] ⟨[(2, tP 2 0), (3, tP 3 0), (6, tI (min low (FrefNet b (m.Nets.getD k.toNat default)))), (7, tI high), (8, tI k), (9, tI (FrefNet b (m.Nets.getD k.toNat default)))], [(2, .cells (TBoard.c b) 62), (3, .cells (TMatch.c m) 78)]⟩ .nil (by kernel_rfl) .nil ?_
        refine ath_n ?_
        refine aw_region eqok [] [] [] [2, 3, 6, 7, 8] [2, 3] [] ⟨[(2, tP 2 0), (3, tP 3 0), (6, tI (min low (FrefNet b (m.Nets.getD k.toNat default)))), (7, tI (max high (FrefNet b (m.Nets.getD k.toNat default)))), (8, tI k)], [(2, .cells (TBoard.c b) 62), (3, .cells (TMatch.c m) 78)]⟩ .nil (by kernel_rfl) .nil ?_
        refine abl_n ?_
        refine ath_n ?_
        refine aw_region eqok [] [] [] [2, 3, 6, 7, 8] [2, 3] [] ⟨[(2, tP 2 0), (3, tP 3 0), (6, tI (min low (FrefNet b (m.Nets.getD k.toNat default)))), (7, tI (max high (FrefNet b (m.Nets.getD k.toNat default)))), (8, tI (W64 (k + 1)))], [(2, .cells (TBoard.c b) 62), (3, .cells (TMatch.c m) 78)]⟩ .nil (by kernel_rfl) .nil ?_
        (try rw [(show W64 (k + 1) = k + 1 from W64_id (by omega) (by first | omega | (simp only [List.length_drop, List.length_take] at *; omega)))])
        refine ath_n ?_
        refine ⟨(n0, min low (FrefNet b (m.Nets.getD k.toNat default)), max high (FrefNet b (m.Nets.getD k.toNat default)), k + 1), ⟨?_, ?_, (by rw [← hF0]; simp only [FrefSpread_l0, h2, cond_true, cond_false])⟩, Nat.lt_succ_self _, cv_eq (by kernel_rfl)⟩
        · show ((((m.Nets.length : Int))) - (k + 1)).toNat < n0; omega
        · exact ⟨(by show 1 ≤ (k + 1); first | trivial | omega | (simp only [List.length_append, List.length_cons, List.length_nil]; omega) | (simp only [List.length_set, List.length_append, List.length_cons, List.length_nil]; omega) | (simp only [W64_def]; omega) | (simp; omega) | simp), (by show ((k + 1) ≤ ((m.Nets.length : Int)) ∨ (k + 1) = 1); first | trivial | omega | (simp only [List.length_append, List.length_cons, List.length_nil]; omega) | (simp only [List.length_set, List.length_append, List.length_cons, List.length_nil]; omega) | (simp only [W64_def]; omega) | (simp; omega) | simp)⟩
      · have g2 := of_decide_eq_false h2
        refine aw_exit ?_
        refine ath_e ?_
        refine ath_e ?_
        refine abl_hit ?_
        refine ath_n ?_
        refine aw_seq ?_
        refine aw_region eqok [] [] [] [4, 5] [] [] ⟨[(4, tI (W64 (high - low))), (5, tB true)], []⟩ .nil (by kernel_rfl) .nil ?_
        refine ath_n ?_
        refine aw_ret ?_
        exact ⟨_, Cv.refl _, .inl rfl, .tup [.one (.i (W64 (high - low))), .one (.b true)], by kernel_rfl, tve_eq (by rw [← hF0]; first | (simp only [FrefSpread_l0, h2, cond_true, cond_false]; done) | (simp only [FrefSpread_l0, h2, cond_true, cond_false]; rfl))⟩
theorem okrefSpread (b : TBoard) (m : TMatch) (hb0 : (b.Tracks.length : Int) ≤ 1000000) (hb1 : (∀ i, (((b.Tracks.getD i default).Shape.Edges.length : Int) ≤ 1000000))) (hm : (m.Nets.length : Int) ≤ 1000000) : CallOk Try.prog (crefSpread b m).1 (crefSpread b m).2.1 (crefSpread b m).2.2 := callOk_pure (fun _ _ => by kernel_rfl) fun _ => prefSpread b m hb0 hb1 hm
end Go.Proofs.Ytgmhnkoifdpemaa
