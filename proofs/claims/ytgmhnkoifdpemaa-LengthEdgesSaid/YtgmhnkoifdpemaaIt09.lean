/-
  No statement is proved in this text. It holds the contract of the iterator over the joints of a shape.
-/
import Derived.Test.YtgmhnkoifdpemaaProg
import Derived.Test.YtgmhnkoifdpemaaS26
import Derived.Test.YtgmhnkoifdpemaaBk1
namespace Go.Proofs.Ytgmhnkoifdpemaa
open Go.RowKit
set_option linter.unusedSimpArgs false
set_option linter.unusedVariables false
/-- How many joints there are, and the edges on both sides of each. -/
def jnN (l : List TEdge) (closed : Bool) : Nat := (l.length - 1) + (bif closed then 1 else 0)
def jnA (l : List TEdge) (x : Nat) : TEdge := if x + 1 < l.length then l.getD x default else l.getD (l.length - 1) default
def jnB (l : List TEdge) (x : Nat) : TEdge := if x + 1 < l.length then l.getD (x + 1) default else l.getD 0 default
abbrev capL (l : List TEdge) : Cl := .eptr 1 1 (fun _ j => ([lst 7 TEdge.c l] : List Cl).getD j default) 0 0
abbrev capC (c : Bool) : Cl := .eptr 1 1 (fun _ j => ([.b c] : List Cl).getD j default) 0 0
abbrev ylV (ly : Nat) : Tv := .av (.one (.val (.func (.yield ly) #[] #[])))
abbrev tO (c : Cl) : Tv := .av (.one c)
theorem nm_edge : ∀ x : TEdge, ∀ y ∈ TEdge.c x, NM y := by
  intro x y hy
  simp only [TEdge.c, List.mem_cons, List.not_mem_nil, or_false] at hy
  rcases hy with rfl | rfl | rfl | rfl | rfl | rfl | rfl <;> exact .val _
theorem nm_capL (l : List TEdge) : NM (capL l) := nm_box fun y hy => by rw [List.mem_singleton.1 hy]; exact nm_lst nm_edge
theorem nm_capC (c : Bool) : NM (capC c) := nm_box fun y hy => by rw [List.mem_singleton.1 hy]; exact .val _
theorem edge_v (x : TEdge) : (TEdge.c x).all Cl.isV = true := rfl
section
variable (l : List TEdge) (closed : Bool)
theorem joints_it (h : closed = true → 1 ≤ l.length) (hl : (l.length : Int) ≤ 1000000) : IterOk Try.prog 91 2 (listF [capL l, capC closed]) (jnN l closed) (fun x => [.agg (TEdge.c (jnA l x.val)), .agg (TEdge.c (jnB l x.val))]) := by
  refine iter_of Try.func91 rfl rfl (fun x => rfl) (fun x e he c hc => ?_) (by kernel_rfl) (fun i hi => ?_) ?_
  · have : c.isV = true := by
      simp only [List.mem_cons, List.not_mem_nil, or_false] at he
      rcases he with rfl | rfl
      · exact List.all_eq_true.1 (edge_v _) c hc
      · exact List.all_eq_true.1 (edge_v _) c hc
    simp only [List.mem_cons, List.not_mem_nil, or_false] at he
    rcases he with rfl | rfl <;> (simp only [Av.cells, TEdge.c, List.mem_cons, List.not_mem_nil, or_false] at hc; rcases hc with rfl | rfl | rfl | rfl | rfl | rfl | rfl <;> rfl)
  · match i, hi with
    | 0, _ => rfl
    | 1, _ => rfl
  intro Ow n0 ly JJ Jx hO hJg hY
  have hT : ∀ (v : Int) i u, get [(0, ylV ly), (1, tO (capL l)), (2, tO (capC closed)), (4, tI v)] i = some u → u.dv = true ∧ TvM u := fun v => forall_get (p := fun u => Tv.dv u = true ∧ TvM u) (by
    simp only [List.forall_mem_cons]
    exact ⟨⟨rfl, avM_one (.val _)⟩, ⟨rfl, avM_one (nm_capL l)⟩, ⟨rfl, avM_one (nm_capC closed)⟩, ⟨rfl, avM_one (.val _)⟩, fun x hx => by cases hx⟩)
  have hd0 : ∀ (v : Int) i u, get [(0, ylV ly), (1, tO (capL l)), (2, tO (capC closed)), (4, tI v)] i = some u → u.dv = true := fun v i u h => (hT v i u h).1
  refine iw_seq ?_
  refine iw_seq ?_
  refine iw_lift hO (forall_get (p := fun u => Tv.dv u = true) (by simp [entryT, capList, Tv.dv, Av.dv, Cl.dv, List.range, List.range.loop, listF])) rfl fun W0 X1 M1 => ?_
  refine aw_region eqok [] [] [] [0, 1, 2, 4] [] [] ⟨[(0, ylV ly), (1, tO (capL l)), (2, tO (capC closed)), (4, tI 1)], []⟩ .nil (by kernel_rfl) .nil ?_
  refine ith_n ?_
  refine iw_block ?_
  have eA : ∀ k : Nat, k + 1 < l.length → [Av.agg (TEdge.c (l.getD ((W64 (((k : Int) + 1) - 1)).toNat) default)), Av.agg (TEdge.c (l.getD ((k : Int) + 1).toNat default))] = [.agg (TEdge.c (jnA l k)), .agg (TEdge.c (jnB l k))] := fun k hk => by
    have e1 : W64 (((k : Int) + 1) - 1) = (k : Int) := by rw [W64_id (by omega) (by omega)]; omega
    have e2 : ((k : Int) + 1).toNat = k + 1 := by omega
    rw [e1, e2, Int.toNat_natCast]
    unfold jnA jnB
    rw [if_pos hk, if_pos hk]
  refine iw_loop (ι := Nat) (fun k => ⟨[(0, ylV ly), (1, tO (capL l)), (2, tO (capC closed)), (4, tI ((k : Int) + 1))], []⟩) (fun k => JJ k) (fun k => k ≤ l.length - 1) (fun k => l.length - k) (fun k hk => ?_) 0 (Nat.zero_le _)
  refine iw_seq ?_
  refine iw_seq ?_
  refine iw_lift hO (hd0 _) rfl fun W0 X1 M1 => ?_
  refine aw_region eqok [] [] [] [0, 1, 2, 4, 8] [] [] ⟨[(0, ylV ly), (1, tO (capL l)), (2, tO (capC closed)), (4, tI ((k : Int) + 1)), (8, tB (decide ((((k : Int) + 1) : Int) < ((l.length : Int)))))], []⟩ .nil (by kernel_rfl) .nil ?_
  refine ith_n ?_
  refine iw_cond (decide ((((k : Int) + 1) : Int) < ((l.length : Int)))) (by kernel_rfl) (fun hc => ?_) (fun hc => ?_)
  · have hlt : k + 1 < l.length := by have := of_decide_eq_true hc; omega
    refine iw_skip ?_
    refine ith_n ?_
    refine iw_seq ?_
    refine iw_block ?_
    refine iw_seq ?_
    refine iw_yieldK (ly := ly) hO mixed eqok 10 rfl [] [] [0, 1, 2, 4, 11, 16, 20] [0, 1, 2, 4, 22] [0 ≤ (W64 (((k : Int) + 1) - 1) : Int) ∧ (W64 (((k : Int) + 1) - 1) : Int) < ((l.length : Nat) : Int), 0 ≤ (((k : Int) + 1) : Int) ∧ (((k : Int) + 1) : Int) < ((l.length : Nat) : Int)]
      [(0, ylV ly), (1, tO (capL l)), (2, tO (capC closed)), (4, tI ((k : Int) + 1)), (11, ylV ly), (16, .av (.agg (TEdge.c (l.getD ((W64 (((k : Int) + 1) - 1)).toNat) default)))), (20, .av (.agg (TEdge.c (l.getD ((k : Int) + 1).toNat default))))] (by kernel_rfl) (by kernel_rfl) ?conds (by kernel_rfl) (by kernel_rfl) [Av.agg (TEdge.c (l.getD ((W64 (((k : Int) + 1) - 1)).toNat) default)), Av.agg (TEdge.c (l.getD ((k : Int) + 1).toNat default))] rfl rfl (by kernel_rfl) (by kernel_rfl) (by kernel_rfl) rfl (by kernel_rfl) ?hT1 (hJg k) (JJ (k + 1)) (Jx (k + 1)) ?hY [] [] ⟨[(0, ylV ly), (1, tO (capL l)), (2, tO (capC closed)), (4, tI ((k : Int) + 1)), (22, tB (!true))], []⟩ ⟨[(22, tB (!false))], []⟩ (by kernel_rfl) .nil (by kernel_rfl) .nil ?hQt ?hQf ?hdv rfl
    case conds =>
      have e1 : W64 (((k : Int) + 1) - 1) = (k : Int) := by rw [W64_id (by omega) (by omega)]; omega
      exact .cons ⟨by rw [e1]; omega, by rw [e1]; omega⟩ (.cons ⟨by omega, by omega⟩ .nil)
    case hT1 => exact forall_get (p := fun u => Tv.dv u = true ∧ TvM u) (by
      simp only [List.forall_mem_cons]
      exact ⟨⟨rfl, avM_one (.val _)⟩, ⟨rfl, avM_one (nm_capL l)⟩, ⟨rfl, avM_one (nm_capC closed)⟩, ⟨rfl, avM_one (.val _)⟩, ⟨rfl, avM_one (.val _)⟩, ⟨rfl, nm_edge _⟩, ⟨rfl, nm_edge _⟩, fun x hx => by cases hx⟩)
    case hY =>
      intro W hW
      have hk2 : k < jnN l closed := by unfold jnN; omega
      rw [eA k hlt]
      exact hY k hk2 W hW
    case hQt =>
      refine ith_n ?_
      refine iw_cond false (by kernel_rfl) (fun h => by cases h) (fun _ => ?_)
      refine iw_skip ?_
      refine ibl_n ?_
      refine ith_n ?_
      refine iw_lift hO (fun i u h => ?_) rfl fun W0 X1 M1 => ?_
      · exact forall_get (p := fun u => Tv.dv u = true) (by simp only [List.forall_mem_cons]; exact ⟨rfl, rfl, rfl, rfl, rfl, fun x hx => by cases hx⟩) i u h
      refine aw_region eqok [] [] [] [0, 1, 2, 4] [] [] ⟨[(0, ylV ly), (1, tO (capL l)), (2, tO (capC closed)), (4, tI (W64 (((k : Int) + 1) + 1)))], []⟩ .nil (by kernel_rfl) .nil ?_
      refine ith_n ?_
      refine ⟨k + 1, by omega, by omega, ?_, rfl, rfl⟩
      have e3 : W64 (((k : Int) + 1) + 1) = ((k + 1 : Nat) : Int) + 1 := by rw [W64_id (by omega) (by omega)]; omega
      rw [e3]
    case hQf =>
      refine ith_n ?_
      refine iw_cond true (by kernel_rfl) (fun _ => ?_) (fun h => by cases h)
      refine iw_ret ?_
      exact ⟨.inl rfl, .inr ⟨k, by unfold jnN; omega, rfl⟩⟩
    case hdv => exact forall_get (p := fun u => Tv.dv u = true) (by simp only [List.forall_mem_cons]; exact ⟨rfl, rfl, rfl, rfl, rfl, fun x hx => by cases hx⟩)
  · have hge : ¬ k + 1 < l.length := by have := of_decide_eq_false hc; omega
    refine iw_exit ?_
    refine ith_x ?_
    refine ith_x ?_
    refine ibl_hit ?_
    refine ith_n ?_
    refine iw_seq ?_
    refine iw_lift hO (fun i u h => ?_) rfl fun W0 X1 M1 => ?_
    · exact forall_get (p := fun u => Tv.dv u = true) (by simp only [List.forall_mem_cons]; exact ⟨rfl, rfl, rfl, rfl, rfl, fun x hx => by cases hx⟩) i u h
    refine aw_region eqok [] [] [] [0, 1, 2, 23] [] [] ⟨[(0, ylV ly), (1, tO (capL l)), (2, tO (capC closed)), (23, tB closed)], []⟩ .nil (by kernel_rfl) .nil ?_
    refine ith_n ?_
    refine iw_cond closed (by kernel_rfl) (fun hcl => ?_) (fun hcl => ?_)
    · have h1 := h hcl
      have hkl : k = l.length - 1 := by omega
      have hk2 : k < jnN l closed := by unfold jnN; rw [hcl]; show k < l.length - 1 + 1; omega
      have hn : k + 1 = jnN l closed := by unfold jnN; rw [hcl]; show k + 1 = l.length - 1 + 1; omega
      have e1 : W64 (((l.length : Int)) - 1) = ((l.length - 1 : Nat) : Int) := by rw [W64_id (by omega) (by omega)]; omega
      refine iw_yieldK (ly := ly) hO mixed eqok 10 rfl [] [] [0, 1, 2, 24, 30, 33] [0] [0 ≤ (W64 (((l.length : Int)) - 1) : Int) ∧ (W64 (((l.length : Int)) - 1) : Int) < ((l.length : Nat) : Int), 0 ≤ (0 : Int) ∧ (0 : Int) < ((l.length : Nat) : Int)]
        [(0, ylV ly), (1, tO (capL l)), (2, tO (capC closed)), (24, ylV ly), (30, .av (.agg (TEdge.c (l.getD ((W64 (((l.length : Int)) - 1)).toNat) default)))), (33, .av (.agg (TEdge.c (l.getD 0 default))))] (by kernel_rfl) (by kernel_rfl) ?conds (by kernel_rfl) (by kernel_rfl) [Av.agg (TEdge.c (l.getD ((W64 (((l.length : Int)) - 1)).toNat) default)), Av.agg (TEdge.c (l.getD 0 default))] rfl rfl (by kernel_rfl) (by kernel_rfl) (by kernel_rfl) rfl (by kernel_rfl) ?hT1 (hJg k) (JJ (k + 1)) (Jx (k + 1)) ?hY [] [] ⟨[(0, ylV ly)], []⟩ ⟨[], []⟩ (by kernel_rfl) .nil (by kernel_rfl) .nil ?hQt ?hQf ?hdv rfl
      case conds => exact .cons ⟨by rw [e1]; omega, by rw [e1]; omega⟩ (.cons ⟨by omega, by omega⟩ .nil)
      case hT1 => exact forall_get (p := fun u => Tv.dv u = true ∧ TvM u) (by
        simp only [List.forall_mem_cons]
        exact ⟨⟨rfl, avM_one (.val _)⟩, ⟨rfl, avM_one (nm_capL l)⟩, ⟨rfl, avM_one (nm_capC closed)⟩, ⟨rfl, avM_one (.val _)⟩, ⟨rfl, nm_edge _⟩, ⟨rfl, nm_edge _⟩, fun x hx => by cases hx⟩)
      case hY =>
        intro W hW
        have := hY k hk2 W hW
        have eL : [Av.agg (TEdge.c (l.getD ((W64 (((l.length : Int)) - 1)).toNat) default)), Av.agg (TEdge.c (l.getD 0 default))] = [.agg (TEdge.c (jnA l k)), .agg (TEdge.c (jnB l k))] := by
          unfold jnA jnB
          rw [if_neg hge, if_neg hge, e1, Int.toNat_natCast]
        rw [eL]
        exact this
      case hQt =>
        refine ⟨.inr rfl, .inl ?_⟩
        rw [hn]
      case hQf => exact ⟨.inr rfl, .inr ⟨k, hk2, rfl⟩⟩
      case hdv => exact forall_get (p := fun u => Tv.dv u = true) (by simp only [List.forall_mem_cons]; exact ⟨rfl, rfl, rfl, rfl, fun x hx => by cases hx⟩)
    · refine iw_skip ?_
      refine ⟨.inr rfl, .inl ?_⟩
      have : k = jnN l closed := by unfold jnN; rw [hcl]; show k = l.length - 1 + 0; omega
      rw [← this]
end
end Go.Proofs.Ytgmhnkoifdpemaa
