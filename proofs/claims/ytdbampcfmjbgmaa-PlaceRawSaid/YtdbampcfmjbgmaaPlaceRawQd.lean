/-
  No statement is proved in this text. It holds a part of what the proof of PlaceRaw needs.
-/
import Derived.Test.YtdbampcfmjbgmaaPlaceRawQc
namespace Go.Proofs.Ytdbampcfmjbgmaa
set_option maxRecDepth 100000
set_option linter.unusedVariables false
set_option linter.unusedSimpArgs false
section
open Go.RowKit
theorem Tb : ∀ x : AR, ∀ y ∈ AR.c x, NM y := by
 intro x y hy
 simp only [AR.c, List.mem_cons, List.not_mem_nil, or_false] at hy
 rcases hy with rfl | rfl <;> first | exact .val _
theorem F7 : ∀ x : AH, ∀ y ∈ AH.c x, NM y := by
 intro x y hy
 simp only [AH.c, List.mem_cons, List.not_mem_nil, or_false] at hy
 rcases hy with rfl | rfl | rfl | rfl | rfl | rfl | rfl <;> first | exact .val _
theorem EY : ∀ x : AD, ∀ y ∈ AD.c x, NM y := by
 intro x y hy
 simp only [AD.c, List.mem_cons, List.not_mem_nil, or_false] at hy
 rcases hy with rfl | rfl | rfl | rfl | rfl | rfl | rfl <;> first | exact .val _
theorem MC : ∀ x : Ad, ∀ y ∈ Ad.c x, NM y := by
 intro x y hy
 simp only [Ad.c, List.mem_cons, List.not_mem_nil, or_false] at hy
 rcases hy with rfl | rfl <;> first | exact .val _ | exact CN Tb
theorem QY : ∀ x : Am, ∀ y ∈ Am.c x, NM y := by
 intro x y hy
 simp only [Am.c, List.mem_cons, List.not_mem_nil, or_false] at hy
 rcases hy with rfl | rfl | rfl | rfl | rfl | rfl <;> first | exact .val _ | exact CN F7
theorem Ta : ∀ x : BS, ∀ y ∈ BS.c x, NM y := by
 intro x y hy
 simp only [BS.c, List.mem_cons, List.not_mem_nil, or_false] at hy
 rcases hy with rfl | rfl | rfl | rfl | rfl | rfl | rfl | rfl <;> first | exact .val _
theorem Rn : ∀ x : An, ∀ y ∈ An.c x, NM y := by
 intro x y hy
 simp only [An.c, List.mem_cons, List.not_mem_nil, or_false] at hy
 rcases hy with rfl | rfl | rfl | rfl <;> first | exact .val _
theorem Ro : ∀ x : A5, ∀ y ∈ A5.c x, NM y := by
 intro x y hy
 simp only [A5.c, List.mem_cons, List.not_mem_nil, or_false] at hy
 rcases hy with rfl | rfl | rfl | rfl | rfl | rfl | rfl | rfl <;> first | exact .val _ | exact CN Rn
theorem Rp : ∀ x : BG, ∀ y ∈ BG.c x, NM y := by
 intro x y hy
 simp only [BG.c, List.mem_cons, List.not_mem_nil, or_false] at hy
 rcases hy with rfl | rfl | rfl | rfl | rfl <;> first | exact .val _ | exact CN F7
theorem Rm : ∀ x : BW, ∀ y ∈ BW.c x, NM y := by
 intro x y hy
 simp only [BW.c, List.mem_cons, List.not_mem_nil, or_false] at hy
 rcases hy with rfl | rfl | rfl | rfl <;> first | exact .val _ | exact CN F7
theorem Qa : ∀ x : Bj, ∀ y ∈ Bj.c x, NM y := by
 intro x y hy
 simp only [Bj.c, List.mem_cons, List.not_mem_nil, or_false] at hy
 rcases hy with rfl | rfl <;> first | exact .val _ | exact CN (fun x y hy => by rw [List.mem_singleton.1 hy]; exact .val _)
theorem Ok : ∀ x : Bf, ∀ y ∈ Bf.c x, NM y := by
 intro x y hy
 simp only [Bf.c, List.mem_cons, List.not_mem_nil, or_false] at hy
 rcases hy with rfl | rfl | rfl <;> first | exact .val _
theorem QZ : ∀ x : CE, ∀ y ∈ CE.c x, NM y := by
 intro x y hy
 simp only [CE.c, List.mem_cons, List.not_mem_nil, or_false] at hy
 rcases hy with rfl | rfl | rfl <;> first | exact .val _ | exact CN (fun x y hy => by rw [List.mem_singleton.1 hy]; exact .val _)
theorem Rq : ∀ x : Ar, ∀ y ∈ Ar.c x, NM y := by
 intro x y hy
 simp only [Ar.c, List.mem_cons, List.not_mem_nil, or_false] at hy
 rcases hy with rfl | rfl | rfl | rfl | rfl | rfl | rfl | rfl | rfl <;> first | exact .val _ | exact CN F7
theorem HB : ∀ x : Ap, ∀ y ∈ Ap.c x, NM y := by
 intro x y hy
 simp only [Ap.c, List.mem_cons, List.not_mem_nil, or_false] at hy
 rcases hy with rfl | rfl | rfl | rfl | rfl | rfl | rfl <;> first | exact .val _ | exact CN F7
theorem Tc : ∀ x : BT, ∀ y ∈ BT.c x, NM y := by
 intro x y hy
 simp only [BT.c, List.mem_cons, List.not_mem_nil, or_false] at hy
 rcases hy with rfl | rfl <;> first | exact .val _
theorem Rr : ∀ x : As, ∀ y ∈ As.c x, NM y := by
 intro x y hy
 simp only [As.c, List.mem_cons, List.not_mem_nil, or_false] at hy
 rcases hy with rfl | rfl <;> first | exact .val _ | exact CN Tc
theorem KA : ∀ x : AG, ∀ y ∈ AG.c x, NM y := by
 intro x y hy
 simp only [AG.c, List.mem_cons, List.not_mem_nil, or_false] at hy
 rcases hy with rfl | rfl | rfl <;> first | exact .val _ | exact CN Rr | exact CN HB
end
section
open Go.RowKit
abbrev Ag (b : AF) : List Cl := [.i b.Layers, .i b.Outline.Kind, lst 7 AH.c b.Outline.Edges, .i b.Outline.R, lst 7 AD.c b.Parts, lst 2 Ad.c b.Nets, lst 6 Am.c b.Tracks, lst 8 BS.c b.Vias, lst 8 A5.c b.Pours, lst 5 BG.c b.Keeps, lst 4 BW.c b.Slots, lst 2 Bj.c b.Classes, .any, lst 3 Bf.c b.Waivers, lst 3 CE.c b.Matches]
theorem Im (b : AF) : ∀ y ∈ Ag b, NM y := by
 intro y hy
 simp only [Ag, List.mem_cons, List.not_mem_nil, or_false] at hy
 rcases hy with rfl | rfl | rfl | rfl | rfl | rfl | rfl | rfl | rfl | rfl | rfl | rfl | rfl | rfl | rfl <;> first | exact .val _ | exact .any | exact CN F7 | exact CN EY | exact CN MC | exact CN QY | exact CN Ta | exact CN Ro | exact CN Rp | exact CN Rm | exact CN Qa | exact CN Ok | exact CN QZ
def EX (types : List AG) (p : AD) : List (AD × Ap) := (B8 types p.Type').1.Pads.map fun q => (p, q)
def AP (b : AF) (types : List AG) : List (AD × Ap) := (BN b.Parts).flatMap (EX types)
def F6 (b : AF) (types : List AG) (k : Nat) : Nat := (((BN b.Parts).take k).flatMap (EX types)).length
theorem Hp (types : List AG) (p : AD) : (EX types p).length = (B8 types p.Type').1.Pads.length := List.length_map _
theorem QM (b : AF) (types : List AG) : F6 b types (BN b.Parts).length = (AP b types).length := by unfold F6 AP; rw [List.take_length]
theorem Ob (b : AF) (types : List AG) {k : Nat} (h : k < (BN b.Parts).length) : F6 b types (k + 1) = F6 b types k + (B8 types ((BN b.Parts).getD k default).Type').1.Pads.length := by
 unfold F6
 rw [(Dd _ k h).1, List.flatMap_append, List.length_append, List.flatMap_singleton, Hp]
theorem RW (b : AF) (types : List AG) {k j : Nat} (h : k < (BN b.Parts).length) (hj : j < (B8 types ((BN b.Parts).getD k default).Type').1.Pads.length) :
  F6 b types k + j < (AP b types).length /\ (AP b types).getD (F6 b types k + j) default = ((BN b.Parts).getD k default, (B8 types ((BN b.Parts).getD k default).Type').1.Pads.getD j default) := by
 have e : AP b types = ((BN b.Parts).take k).flatMap (EX types) ++ (EX types ((BN b.Parts).getD k default) ++ ((BN b.Parts).drop (k + 1)).flatMap (EX types)) := by
  unfold AP
  rw [<- List.flatMap_cons, <- (Dd _ k h).2, <- List.flatMap_append, List.take_append_drop]
 have hl := Hp types ((BN b.Parts).getD k default)
 rw [e]
 unfold F6
 constructor
 ·rw [List.length_append, List.length_append, hl]; omega
 ·rw [List.getD_eq_getElem?_getD, List.getElem?_append_right (by omega), Nat.add_sub_cancel_left, List.getElem?_append_left (by rw [hl]; exact hj)]
  unfold EX
  rw [List.getElem?_map, List.getElem?_eq_getElem hj, List.getD_eq_getElem?_getD (l := (B8 types _).1.Pads), List.getElem?_eq_getElem hj]
  rfl
theorem TH (b : AF) (types : List AG) (hb : b.Parts.length < 20) (ht : B1 types) : G3 Try.prog 68 2 (BE [.eptr 15 1 (gD (Ag b)) 0 0, .eptr 1 1 (gD [lst 3 AG.c types]) 0 0]) (AP b types).length (fun x => [.agg (AD.c ((AP b types).getD x.val default).1), .agg (Ap.c ((AP b types).getD x.val default).2)]) := by
 refine Nd Try.func68 rfl rfl kr (fun i hi => ?_) ?_
 ·match i, hi with
  | 0, _ => rfl
  | 1, _ => rfl
 intro Ow n0 ly JJ hO hJg hY
 have hd : ∀ (x : List (Nat × Tv)), (∀ p ∈ x, p.2.dv = true) -> ∀ i u, get x i = some u -> u.dv = true := fun x h => Cr (p := fun u => Tv.dv u = true) h
 refine Rz hO (Cr (p := fun u => Tv.dv u = true) (by simp [EP, DV, Tv.dv, Av.dv, Cl.dv, List.range, List.range.loop, BE])) rfl fun W0 X1 M1 hX => ?_
 have hp1 : (b.Parts.length : Int) <= 1000000 := by omega
 refine rc [(13, IW b.Parts)] [Al (IW b.Parts).2.1] ⟨[(0, .av (.one (.val (.func (.yield ly) #[] #[])))), (2, .av (.one (.eptr 1 1 (gD [lst 3 AG.c types]) 0 0))), (4, tO (.own 13 7 b.Parts.length))], [(13, .row 7 b.Parts.length (AY AD.c b.Parts) 59)]⟩ (.cons (Rf b.Parts au13) .nil) (.cons rfl .nil) <| AJ ?_
 refine rc [(15, (70, ([.one (.own 1000 7 b.Parts.length), .one (.clo 71 0 (fun _ => default))] : List Av).map (Lu 1000 13), wrI 13 (.row 7 b.Parts.length (AY AD.c b.Parts) 59) (.tup []) (.row 7 b.Parts.length (AY AD.c (BN b.Parts)) 59)))] [Al (70, ([.one (.own 1000 7 b.Parts.length), .one (.clo 71 0 (fun _ => default))] : List Av).map (Lu 1000 13), wrI 13 (.row 7 b.Parts.length (AY AD.c b.Parts) 59) (.tup []) (.row 7 b.Parts.length (AY AD.c (BN b.Parts)) 59)).2.1, BH (.row 7 b.Parts.length (AY AD.c b.Parts) 59)] ⟨[(0, .av (.one (.val (.func (.yield ly) #[] #[])))), (2, .av (.one (.eptr 1 1 (gD [lst 3 AG.c types]) 0 0))), (4, tO (.own 13 7 b.Parts.length))], [(13, .row 7 b.Parts.length (AY AD.c (BN b.Parts)) 59)]⟩ (.cons (Hz (fun _ _ => kr) kr (pSrtP b.Parts au13)) .nil) (.cons rfl (.cons rfl .nil)) ?_
 refine ⟨rfl, ⟨[(0, .av (.one (.val (.func (.yield ly) #[] #[])))), (2, .av (.one (.eptr 1 1 (gD [lst 3 AG.c types]) 0 0))), (4, tO (lst 7 AD.c (BN b.Parts)))], []⟩, fun W2 M2 => Cv.trans (BR (⟨[(0, .av (.one (.val (.func (.yield ly) #[] #[])))), (2, .av (.one (.eptr 1 1 (gD [lst 3 AG.c types]) 0 0))), (4, tO (.own 13 7 (BN b.Parts).length))], [(13, .row 7 (BN b.Parts).length (AY AD.c (BN b.Parts)) 59)]⟩) (.cons ⟨rfl, .refl _⟩ (.cons ⟨rfl, .refl _⟩ (.cons ⟨rfl, .av (.one (.own _ _ (HU b.Parts au13).symm))⟩ .nil))) (.cons ⟨rfl, Aw 59 (⟨(HU b.Parts au13).symm, fun _ _ _ _ => .refl _⟩)⟩ .nil)) (Cv.trans (Cu (⟨[(0, .av (.one (.val (.func (.yield ly) #[] #[])))), (2, .av (.one (.eptr 1 1 (gD [lst 3 AG.c types]) 0 0))), (4, tO (lst 7 AD.c (BN b.Parts)))], []⟩) 13 7 (BN b.Parts).length (AY AD.c (BN b.Parts)) 59 (K := []) (fun k x h => by cases h) kr kr (.cons ⟨rfl, rfl⟩ .nil) kr) (Cv.refl _)), ?_⟩
 have hps := HU b.Parts hb
 refine Dg ?_
 refine D8 hO (hd _ (by simp only [List.forall_mem_cons]; exact ⟨rfl, rfl, rfl, fun x hx => by cases hx⟩)) rfl fun W0 X1 M1 => ?_
 refine rg ⟨[(0, .av (.one (.val (.func (.yield ly) #[] #[])))), (2, .av (.one (.eptr 1 1 (gD [lst 3 AG.c types]) 0 0))), (16, tO (lst 7 AD.c (BN b.Parts))), (17, tI ((BN b.Parts).length : Int)), (18, tI 0)], []⟩ ?_
 refine Dy ?_
 refine F9 ?_
 refine MI (ι := Nat) (fun k => ⟨[(0, .av (.one (.val (.func (.yield ly) #[] #[])))), (2, .av (.one (.eptr 1 1 (gD [lst 3 AG.c types]) 0 0))), (16, tO (lst 7 AD.c (BN b.Parts))), (17, tI ((BN b.Parts).length : Int)), (18, tI (k : Int))], []⟩) (fun k => JJ (F6 b types k)) (fun k => k <= (BN b.Parts).length) (fun k => (BN b.Parts).length - k) (fun k hk => ?_) 0 (Nat.zero_le _)
 refine Dg ?_
 refine D8 hO (hd _ (by simp only [List.forall_mem_cons]; exact ⟨rfl, rfl, rfl, rfl, rfl, fun x hx => by cases hx⟩)) rfl fun W0 X1 M1 => ?_
 refine rg ⟨[(0, .av (.one (.val (.func (.yield ly) #[] #[])))), (2, .av (.one (.eptr 1 1 (gD [lst 3 AG.c types]) 0 0))), (16, tO (lst 7 AD.c (BN b.Parts))), (17, tI ((BN b.Parts).length : Int)), (18, tI (k : Int)), (19, tB (decide (((k : Int) : Int) < ((BN b.Parts).length : Int))))], []⟩ ?_
 refine Dy ?_
 refine Dg ?_
 refine HC (decide (((k : Int) : Int) < ((BN b.Parts).length : Int))) kr (fun hc => ?_) (fun hc => ?_)
 ·have hlt : k < (BN b.Parts).length := by have := oT hc; omega
  refine IJ ?_
  refine Dy ?_
  refine Dg ?_
  refine F9 ?_
  refine Dg ?_
  refine KK [0, 2, 16, 17, 18] ⟨[(0, .av (.one (.val (.func (.yield ly) #[] #[])))), (2, .av (.one (.eptr 1 1 (gD [lst 3 AG.c types]) 0 0))), (16, tO (lst 7 AD.c (BN b.Parts))), (17, tI ((BN b.Parts).length : Int)), (18, tI (k : Int))], []⟩ kr ?_
  refine D8 hO (hd _ (by simp only [List.forall_mem_cons]; exact ⟨rfl, rfl, rfl, rfl, rfl, fun x hx => by cases hx⟩)) rfl fun W0 X1 M1 => ?_
  refine rc [] [0 <= ((k : Int) : Int) /\ ((k : Int) : Int) < (((BN b.Parts).length : Nat) : Int)] ⟨[(0, .av (.one (.val (.func (.yield ly) #[] #[])))), (2, .av (.one (.eptr 1 1 (gD [lst 3 AG.c types]) 0 0))), (6, tP 6 0), (16, tO (lst 7 AD.c (BN b.Parts))), (17, tI ((BN b.Parts).length : Int)), (18, tI (k : Int))], [(6, .cells (AD.c ((BN b.Parts).getD (k : Int).toNat default)) 59)]⟩ .nil (.cons au0 .nil) ?_
  refine Dy ?_
  refine R0 (S := ⟨[(0, .av (.one (.val (.func (.yield ly) #[] #[])))), (2, .av (.one (.eptr 1 1 (gD [lst 3 AG.c types]) 0 0))), (6, .av (.one (.eptr 7 1 (gD (AD.c ((BN b.Parts).getD (k : Int).toNat default))) 0 0))), (16, tO (lst 7 AD.c (BN b.Parts))), (17, tI ((BN b.Parts).length : Int)), (18, tI (k : Int))], []⟩) hO (fun W0 M1 => Iy _ 6 (AD.c ((BN b.Parts).getD (k : Int).toNat default)) 59 (K := []) (fun k x h => by cases h) kr kr kr kr) ?_
  have hns := Ob b types hlt
  have hat := fun j hj => RW b types (j := j) hlt hj
  rw [Int.toNat_natCast]
  generalize hp : (BN b.Parts).getD k default = p at *
  refine Dg ?_
  have hgl := Fq types p.Type'
  have hpl : ((B8 types p.Type').1.Pads.length : Int) <= 1000000 := by rw [hgl]; exact GV ht _
  refine D8 hO (hd _ (by simp only [List.forall_mem_cons]; exact ⟨rfl, rfl, rfl, rfl, rfl, rfl, fun x hx => by cases hx⟩)) rfl fun W0 X1 M1 => ?_
  refine rc [(26, Nx types p.Type')] [Al (Nx types p.Type').2.1] ⟨[(0, .av (.one (.val (.func (.yield ly) #[] #[])))), (2, .av (.one (.eptr 1 1 (gD [lst 3 AG.c types]) 0 0))), (6, .av (.one (.eptr 7 1 (gD (AD.c p)) 0 0))), (7, tP 7 0), (16, tO (lst 7 AD.c (BN b.Parts))), (17, tI ((BN b.Parts).length : Int)), (18, tI (k : Int))], [(7, .cells (AG.c (B8 types p.Type').1) 114)]⟩ (.cons (T9 types p.Type' au13) .nil) (.cons rfl .nil) ?_
  refine Dy ?_
  refine R0 (S := ⟨[(0, .av (.one (.val (.func (.yield ly) #[] #[])))), (2, .av (.one (.eptr 1 1 (gD [lst 3 AG.c types]) 0 0))), (6, .av (.one (.eptr 7 1 (gD (AD.c p)) 0 0))), (7, .av (.one (.eptr 3 1 (gD (AG.c (B8 types p.Type').1)) 0 0))), (16, tO (lst 7 AD.c (BN b.Parts))), (17, tI ((BN b.Parts).length : Int)), (18, tI (k : Int))], []⟩) hO (fun W0 M1 => Iy _ 7 (AG.c (B8 types p.Type').1) 114 (K := []) (fun k x h => by cases h) kr kr kr kr) ?_
  refine Dg ?_
  refine D8 hO (hd _ (by simp only [List.forall_mem_cons]; exact ⟨rfl, rfl, rfl, rfl, rfl, rfl, rfl, fun x hx => by cases hx⟩)) rfl fun W0 X1 M1 => ?_
  refine rg ⟨[(0, .av (.one (.val (.func (.yield ly) #[] #[])))), (2, .av (.one (.eptr 1 1 (gD [lst 3 AG.c types]) 0 0))), (6, .av (.one (.eptr 7 1 (gD (AD.c p)) 0 0))), (16, tO (lst 7 AD.c (BN b.Parts))), (17, tI ((BN b.Parts).length : Int)), (18, tI (k : Int)), (30, tO (lst 7 Ap.c (B8 types p.Type').1.Pads)), (31, tI ((B8 types p.Type').1.Pads.length : Int)), (32, tI 0)], []⟩ ?_
  refine Dy ?_
  refine F9 ?_
  refine MI (ι := Nat) (fun j => ⟨[(0, .av (.one (.val (.func (.yield ly) #[] #[])))), (2, .av (.one (.eptr 1 1 (gD [lst 3 AG.c types]) 0 0))), (6, .av (.one (.eptr 7 1 (gD (AD.c p)) 0 0))), (16, tO (lst 7 AD.c (BN b.Parts))), (17, tI ((BN b.Parts).length : Int)), (18, tI (k : Int)), (30, tO (lst 7 Ap.c (B8 types p.Type').1.Pads)), (31, tI ((B8 types p.Type').1.Pads.length : Int)), (32, tI (j : Int))], []⟩) (fun j => JJ (F6 b types k + j)) (fun j => j <= (B8 types p.Type').1.Pads.length) (fun j => (B8 types p.Type').1.Pads.length - j) (fun j hj => ?_) 0 (Nat.zero_le _)
  refine Dg ?_
  refine D8 hO (hd _ (by simp only [List.forall_mem_cons]; exact ⟨rfl, rfl, rfl, rfl, rfl, rfl, rfl, rfl, rfl, fun x hx => by cases hx⟩)) rfl fun W0 X1 M1 => ?_
  refine rg ⟨[(0, .av (.one (.val (.func (.yield ly) #[] #[])))), (2, .av (.one (.eptr 1 1 (gD [lst 3 AG.c types]) 0 0))), (6, .av (.one (.eptr 7 1 (gD (AD.c p)) 0 0))), (16, tO (lst 7 AD.c (BN b.Parts))), (17, tI ((BN b.Parts).length : Int)), (18, tI (k : Int)), (30, tO (lst 7 Ap.c (B8 types p.Type').1.Pads)), (31, tI ((B8 types p.Type').1.Pads.length : Int)), (32, tI (j : Int)), (33, tB (decide (((j : Int) : Int) < ((B8 types p.Type').1.Pads.length : Int))))], []⟩ ?_
  refine Dy ?_
  refine Dg ?_
  refine HC (decide (((j : Int) : Int) < ((B8 types p.Type').1.Pads.length : Int))) kr (fun hc2 => ?_) (fun hc2 => ?_)
  ·have hlt2 : j < (B8 types p.Type').1.Pads.length := by have := oT hc2; omega
   obtain ⟨hat1, hat2⟩ := hat j hlt2
   refine IJ ?_
   refine Dy ?_
   refine Dg ?_
   refine F9 ?_
   refine Dg ?_
   refine KK [0, 2, 6, 16, 17, 18, 30, 31, 32] ⟨[(0, .av (.one (.val (.func (.yield ly) #[] #[])))), (2, .av (.one (.eptr 1 1 (gD [lst 3 AG.c types]) 0 0))), (6, .av (.one (.eptr 7 1 (gD (AD.c p)) 0 0))), (16, tO (lst 7 AD.c (BN b.Parts))), (17, tI ((BN b.Parts).length : Int)), (18, tI (k : Int)), (30, tO (lst 7 Ap.c (B8 types p.Type').1.Pads)), (31, tI ((B8 types p.Type').1.Pads.length : Int)), (32, tI (j : Int))], []⟩ kr ?_
   refine D8 hO (hd _ (by simp only [List.forall_mem_cons]; exact ⟨rfl, rfl, rfl, rfl, rfl, rfl, rfl, rfl, rfl, fun x hx => by cases hx⟩)) rfl fun W0 X1 M1 => ?_
   refine rc [] [0 <= ((j : Int) : Int) /\ ((j : Int) : Int) < (((B8 types p.Type').1.Pads.length : Nat) : Int)] ⟨[(0, .av (.one (.val (.func (.yield ly) #[] #[])))), (2, .av (.one (.eptr 1 1 (gD [lst 3 AG.c types]) 0 0))), (6, .av (.one (.eptr 7 1 (gD (AD.c p)) 0 0))), (10, tP 10 0), (16, tO (lst 7 AD.c (BN b.Parts))), (17, tI ((BN b.Parts).length : Int)), (18, tI (k : Int)), (30, tO (lst 7 Ap.c (B8 types p.Type').1.Pads)), (31, tI ((B8 types p.Type').1.Pads.length : Int)), (32, tI (j : Int))], [(10, .cells (Ap.c ((B8 types p.Type').1.Pads.getD (j : Int).toNat default)) 118)]⟩ .nil (.cons au0 .nil) ?_
   refine Dy ?_
   refine R0 (S := ⟨[(0, .av (.one (.val (.func (.yield ly) #[] #[])))), (2, .av (.one (.eptr 1 1 (gD [lst 3 AG.c types]) 0 0))), (6, .av (.one (.eptr 7 1 (gD (AD.c p)) 0 0))), (10, .av (.one (.eptr 7 1 (gD (Ap.c ((B8 types p.Type').1.Pads.getD (j : Int).toNat default))) 0 0))), (16, tO (lst 7 AD.c (BN b.Parts))), (17, tI ((BN b.Parts).length : Int)), (18, tI (k : Int)), (30, tO (lst 7 Ap.c (B8 types p.Type').1.Pads)), (31, tI ((B8 types p.Type').1.Pads.length : Int)), (32, tI (j : Int))], []⟩) hO (fun W0 M1 => Iy _ 10 (Ap.c ((B8 types p.Type').1.Pads.getD (j : Int).toNat default)) 118 (K := []) (fun k x h => by cases h) kr kr kr kr) ?_
   rw [Int.toNat_natCast]
   generalize hq : (B8 types p.Type').1.Pads.getD j default = q at *
   refine Dg ?_
   refine KJ ?_
   refine II hO Dz 3 [0, 2, 6, 10, 16, 17, 18, 30, 31, 32, 36, 37, 38] [] [(0, .av (.one (.val (.func (.yield ly) #[] #[])))), (2, .av (.one (.eptr 1 1 (gD [lst 3 AG.c types]) 0 0))), (6, .av (.one (.eptr 7 1 (gD (AD.c p)) 0 0))), (10, .av (.one (.eptr 7 1 (gD (Ap.c q)) 0 0))), (16, tO (lst 7 AD.c (BN b.Parts))), (17, tI ((BN b.Parts).length : Int)), (18, tI (k : Int)), (30, tO (lst 7 Ap.c (B8 types p.Type').1.Pads)), (31, tI ((B8 types p.Type').1.Pads.length : Int)), (32, tI (j : Int)), (36, .av (.one (.val (.func (.yield ly) #[] #[])))), (37, .av (.agg (AD.c p))), (38, .av (.agg (Ap.c q)))] kr .nil (hd _ (by simp only [List.forall_mem_cons]; exact ⟨rfl, rfl, rfl, rfl, rfl, rfl, rfl, rfl, rfl, rfl, fun x hx => by cases hx⟩)) rfl ?_
   refine Oq (ly := ly) (d := 39) hO rfl [.agg (AD.c p), .agg (Ap.c q)] rfl rfl kr kr kr ?hvm rfl kr ?hT1 (fun A B => hJg _ A B) (JJ (F6 b types k + j + 1)) ?hY rfl ?ht
   case hvm =>
    intro x hx
    simp only [List.mem_cons, List.not_mem_nil, or_false] at hx
    rcases hx with rfl | rfl
    ·exact EY _
    ·exact HB _
   case hT1 => exact Cr (p := fun u => Tv.dv u = true /\ TvM u) (by
    simp only [List.forall_mem_cons]
    exact ⟨⟨rfl, B5 (.val _)⟩, ⟨rfl, B5 (Fs (by simp only [List.forall_mem_cons]; exact ⟨(CN KA), fun x hx => by cases hx⟩))⟩, ⟨rfl, B5 (Fs (EY _))⟩, ⟨rfl, B5 (Fs (HB _))⟩, ⟨rfl, B5 (CN EY)⟩, ⟨rfl, B5 (.val _)⟩, ⟨rfl, B5 (.val _)⟩, ⟨rfl, B5 (CN HB)⟩, ⟨rfl, B5 (.val _)⟩, ⟨rfl, B5 (.val _)⟩, ⟨rfl, B5 (.val _)⟩, ⟨rfl, (EY _)⟩, ⟨rfl, (HB _)⟩, fun x hx => by cases hx⟩)
   case hY =>
    intro W v hW hv
    refine hY _ hat1 W v hW ?_
    show T0 (fun _ => none) Ow [.agg (AD.c ((AP b types).getD (F6 b types k + j) default).1), .agg (Ap.c ((AP b types).getD (F6 b types k + j) default).2)] v W
    rw [hat2]
    exact hv
   case ht =>
    refine KI [0, 2, 6, 16, 17, 18, 30, 31, 32, 39] ⟨[(0, .av (.one (.val (.func (.yield ly) #[] #[])))), (2, .av (.one (.eptr 1 1 (gD [lst 3 AG.c types]) 0 0))), (6, .av (.one (.eptr 7 1 (gD (AD.c p)) 0 0))), (16, tO (lst 7 AD.c (BN b.Parts))), (17, tI ((BN b.Parts).length : Int)), (18, tI (k : Int)), (30, tO (lst 7 Ap.c (B8 types p.Type').1.Pads)), (31, tI ((B8 types p.Type').1.Pads.length : Int)), (32, tI (j : Int)), (39, tB true)], []⟩ kr ?_
    refine II hO Dz 1 [0, 2, 6, 16, 17, 18, 30, 31, 32, 40] [] [(0, .av (.one (.val (.func (.yield ly) #[] #[])))), (2, .av (.one (.eptr 1 1 (gD [lst 3 AG.c types]) 0 0))), (6, .av (.one (.eptr 7 1 (gD (AD.c p)) 0 0))), (16, tO (lst 7 AD.c (BN b.Parts))), (17, tI ((BN b.Parts).length : Int)), (18, tI (k : Int)), (30, tO (lst 7 Ap.c (B8 types p.Type').1.Pads)), (31, tI ((B8 types p.Type').1.Pads.length : Int)), (32, tI (j : Int)), (40, tB false)] kr .nil (hd _ (by simp only [List.forall_mem_cons]; exact ⟨rfl, rfl, rfl, rfl, rfl, rfl, rfl, rfl, rfl, rfl, fun x hx => by cases hx⟩)) rfl ?_
    refine MH ?_
    refine Dy ?_
    refine HC false kr (fun h => by cases h) (fun _ => ?_)
    refine IJ ?_
    refine R9 ?_
    refine Dy ?_
    refine D8 hO (hd _ (by simp only [List.forall_mem_cons]; exact ⟨rfl, rfl, rfl, rfl, rfl, rfl, rfl, rfl, rfl, rfl, fun x hx => by cases hx⟩)) rfl fun W0 X1 M1 => ?_
    refine rg ⟨[(0, .av (.one (.val (.func (.yield ly) #[] #[])))), (2, .av (.one (.eptr 1 1 (gD [lst 3 AG.c types]) 0 0))), (6, .av (.one (.eptr 7 1 (gD (AD.c p)) 0 0))), (16, tO (lst 7 AD.c (BN b.Parts))), (17, tI ((BN b.Parts).length : Int)), (18, tI (k : Int)), (30, tO (lst 7 Ap.c (B8 types p.Type').1.Pads)), (31, tI ((B8 types p.Type').1.Pads.length : Int)), (32, tI (W64 ((j : Int) + 1)))], []⟩ ?_
    refine Dy ?_
    refine ⟨j + 1, by omega, by omega, ?_, by rw [Nat.add_assoc], rfl⟩
    rw [BP (by omega) (by omega)]
    rfl
  ·have hjl : j = (B8 types p.Type').1.Pads.length := by have := oF hc2; omega
   refine MJ ?_
   refine LM ?_
   refine LM ?_
   refine MN ?_
   refine R9 ?_
   refine Dy ?_
   refine KK [0, 2, 16, 17, 18] ⟨[(0, .av (.one (.val (.func (.yield ly) #[] #[])))), (2, .av (.one (.eptr 1 1 (gD [lst 3 AG.c types]) 0 0))), (16, tO (lst 7 AD.c (BN b.Parts))), (17, tI ((BN b.Parts).length : Int)), (18, tI (k : Int))], []⟩ kr ?_
   refine D8 hO (hd _ (by simp only [List.forall_mem_cons]; exact ⟨rfl, rfl, rfl, rfl, rfl, fun x hx => by cases hx⟩)) rfl fun W0 X1 M1 => ?_
   refine rg ⟨[(0, .av (.one (.val (.func (.yield ly) #[] #[])))), (2, .av (.one (.eptr 1 1 (gD [lst 3 AG.c types]) 0 0))), (16, tO (lst 7 AD.c (BN b.Parts))), (17, tI ((BN b.Parts).length : Int)), (18, tI (W64 ((k : Int) + 1)))], []⟩ ?_
   refine Dy ?_
   refine ⟨k + 1, by omega, by omega, ?_, by rw [hjl, hns], rfl⟩
   rw [BP (by omega) (by omega)]
   rfl
 ·have hkl : k = (BN b.Parts).length := by have := oF hc; omega
  refine MJ ?_
  refine LM ?_
  refine LM ?_
  refine MN ?_
  exact ⟨.inr rfl, by rw [hkl, QM]⟩
end
section
open Go.RowKit
section
variable (len : Nat) (g : Nat → Nat → Value)
abbrev Ma : Cl := Sa false 2 len (fun i j => .val (g i j))
theorem TZ : NM (Ma len g) := Fs fun y hy => by rw [List.mem_singleton.1 hy]; exact .list _ _ _ _ fun i j => .val _
abbrev ylB (ly : Nat) : Tv := .av (.one (.val (.func (.yield ly) #[] #[])))
abbrev tB1 (c : Cl) : Tv := .av (.one c)
abbrev avB (k : Nat) : Av := .agg [.val (g k 0), .val (g k 1)]
theorem Se (hl : (len : Int) <= 1000000) (h1 : ∀ i j, i < len -> j < 2 -> (g i j).oneCell' = true) : G3 Try.prog 67 1 (BE [Ma len g]) len (fun x => [.one (.i ((len : Int) - 1 - (x.val : Int))), avB g (len - 1 - x.val)]) := by
 refine Qh Try.func67 rfl rfl (fun x => rfl) (fun x e he c hc => ?_) kr (fun i hi => ?_) ?_
 ·simp only [List.mem_cons, List.not_mem_nil, or_false] at he
  rcases he with rfl | rfl
  ·rw [List.mem_singleton.1 hc]; rfl
  ·simp only [Av.cells, List.mem_cons, List.not_mem_nil, or_false] at hc
   have := x.isLt
   rcases hc with rfl | rfl <;> exact h1 _ _ (by omega) (by decide)
 ·match i, hi with
  | 0, _ => rfl
 intro Ow n0 ly JJ Jx hO hJg hY
 have hd : ∀ (x : List (Nat × Tv)), (∀ p ∈ x, p.2.dv = true) -> ∀ i u, get x i = some u -> u.dv = true := fun x h => Cr (p := fun u => Tv.dv u = true) h
 refine Dg ?_
 refine D8 hO (Cr (p := fun u => Tv.dv u = true) (by simp [EP, DV, Tv.dv, Av.dv, Cl.dv, List.range, List.range.loop, BE])) rfl fun W0 X1 M1 => ?_
 refine rg ⟨[(0, ylB ly), (1, tB1 (Ma len g)), (3, tI (W64 ((len : Int) - 1)))], []⟩ ?_
 refine Dy ?_
 refine F9 ?_
 rw [show W64 ((len : Int) - 1) = (len : Int) - 1 - ((0 : Nat) : Int) by rw [BP (by omega) (by omega)]; omega]
 refine MI (ι := Nat) (fun k => ⟨[(0, ylB ly), (1, tB1 (Ma len g)), (3, tI ((len : Int) - 1 - (k : Int)))], []⟩) (fun k => JJ k) (fun k => k <= len) (fun k => len - k) (fun k hk => ?_) 0 (Nat.zero_le _)
 refine Dg ?_
 refine Dg ?_
 refine D8 hO (hd _ (by simp only [List.forall_mem_cons]; exact ⟨rfl, rfl, rfl, fun x hx => by cases hx⟩)) rfl fun W0 X1 M1 => ?_
 refine rg ⟨[(0, ylB ly), (1, tB1 (Ma len g)), (3, tI ((len : Int) - 1 - (k : Int))), (8, tB (decide ((0 : Int) <= ((len : Int) - 1 - (k : Int)))))], []⟩ ?_
 refine Dy ?_
 refine HC (decide ((0 : Int) <= ((len : Int) - 1 - (k : Int)))) kr (fun hc => ?_) (fun hc => ?_)
 ·have hlt : k < len := by have := oT hc; omega
  obtain ⟨m, hm⟩ : ∃ m : Nat, (len : Int) - 1 - (k : Int) = (m : Int) := ⟨len - 1 - k, by omega⟩
  have hm2 : m = len - 1 - k := by omega
  refine IJ ?_
  refine Dy ?_
  refine Dg ?_
  refine F9 ?_
  refine Dg ?_
  refine KJ ?_
  rw [hm]
  refine II hO Dz 6 [0, 1, 3, 11, 12, 16] [0 <= (m : Int) /\ (m : Int) < ((len : Nat) : Int)] [(0, ylB ly), (1, tB1 (Ma len g)), (3, tI (m : Int)), (11, ylB ly), (12, tI (m : Int)), (16, .av (avB g (m : Int).toNat))] kr (.cons ⟨by omega, by omega⟩ .nil) (hd _ (by simp only [List.forall_mem_cons]; exact ⟨rfl, rfl, rfl, rfl, fun x hx => by cases hx⟩)) rfl ?_
  rw [Int.toNat_natCast]
  refine Ot (ly := ly) (d := 17) hO rfl [.one (.i (m : Int)), avB g m] rfl rfl kr kr rfl rfl kr ?hT1 (fun A B => hJg _ A B) (JJ (k + 1)) (Jx (k + 1)) ?hY [] ?htf rfl ?ht ?hf
  case hT1 => exact Cr (p := fun u => Tv.dv u = true /\ TvM u) (by
   simp only [List.forall_mem_cons]
   exact ⟨⟨rfl, B5 (.val _)⟩, ⟨rfl, B5 (TZ len g)⟩, ⟨rfl, B5 (.val _)⟩, ⟨rfl, B5 (.val _)⟩, ⟨rfl, B5 (.val _)⟩, ⟨rfl, fun c hc => by
    simp only [Av.cells, List.mem_cons, List.not_mem_nil, or_false] at hc
    rcases hc with rfl | rfl <;> exact .val _⟩, fun x hx => by cases hx⟩)
  case hY =>
   intro W hW
   have := hY k hlt W hW
   simp only [hm, <- hm2] at this
   exact this
  case htf => exact fun i v hv => by cases hv
  case ht =>
   refine KI [0, 1, 3, 17] ⟨[(0, ylB ly), (1, tB1 (Ma len g)), (3, tI (m : Int)), (17, tB true)], []⟩ kr ?_
   refine II hO Dz 1 [0, 1, 3, 18] [] [(0, ylB ly), (1, tB1 (Ma len g)), (3, tI (m : Int)), (18, tB false)] kr .nil (hd _ (by simp only [List.forall_mem_cons]; exact ⟨rfl, rfl, rfl, rfl, fun x hx => by cases hx⟩)) rfl ?_
   refine MH ?_
   refine Dy ?_
   refine HC false kr (fun h => by cases h) (fun _ => ?_)
   refine IJ ?_
   refine R9 ?_
   refine Dy ?_
   refine D8 hO (hd _ (by simp only [List.forall_mem_cons]; exact ⟨rfl, rfl, rfl, rfl, fun x hx => by cases hx⟩)) rfl fun W0 X1 M1 => ?_
   refine rg ⟨[(0, ylB ly), (1, tB1 (Ma len g)), (3, tI (W64 ((m : Int) - 1)))], []⟩ ?_
   refine Dy ?_
   refine ⟨k + 1, by omega, by omega, ?_, rfl, rfl⟩
   rw [BP (by omega) (by omega), show (m : Int) - 1 = (len : Int) - 1 - ((k + 1 : Nat) : Int) by omega]
  case hf =>
   refine KI [17] ⟨[(17, tB false)], []⟩ kr ?_
   refine II hO Dz 1 [18] [] [(18, tB true)] kr .nil (hd _ (by simp only [List.forall_mem_cons]; exact ⟨rfl, fun x hx => by cases hx⟩)) rfl ?_
   refine MH ?_
   refine Dy ?_
   refine HC true kr (fun _ => ?_) (fun h => by cases h)
   refine U1 ?_
   exact ⟨.inl rfl, .inr ⟨_, hlt, rfl⟩⟩
 ·have hkl : k = len := by have := oF hc; omega
  refine MJ ?_
  refine LM ?_
  refine LM ?_
  refine MN ?_
  exact ⟨.inr rfl, .inl (by rw [hkl])⟩
end
theorem Ts (l : List Ad) (hl : (l.length : Int) <= 1000000) : G3 Try.prog 67 1 (BE [.eptr 1 1 (fun _ j => ([lst 2 Ad.c l] : List Cl).getD j default) 0 0]) l.length (fun x => [.one (.i ((l.length : Int) - 1 - (x.val : Int))), .agg (Ad.c (l.getD (l.length - 1 - x.val) default))]) := by
 refine Ou (t := false) (sz := 2) (len := l.length) (f := fun i j => (Ad.c (l.getD i default)).getD j default) (fun g x => [.one (.i ((l.length : Int) - 1 - (x.val : Int))), avB g (l.length - 1 - x.val)]) rfl (by decide) (fun g h1 => ?_) (fun g x => rfl) (fun M g x vs h2 hL => ?_)
 ·refine Ov (fun i hi => ?_) (Se l.length g hl h1)
  match i, hi with
  | 0, _ => rfl
 ·cases hL with
  | cons a1 a2 =>
   cases a2 with
   | cons a3 a4 =>
    refine .cons a1 (.cons (fun σ => ?_) a4)
    obtain ⟨us, hu, hus⟩ := a3 σ
    refine ⟨us, hu, ?_⟩
    have hx : l.length - 1 - x.val < l.length := by have := x.isLt; omega
    cases hus with
    | cons b1 b2 =>
     cases b2 with
     | cons b3 b4 =>
      cases b4
      have e1 := b1.1
      have e2 := b3.1
      subst e1 e2
      exact .cons ((HY rfl).2 (h2 _ 0 hx (by decide))) (.cons ((HY rfl).2 (h2 _ 1 hx (by decide))) .nil)
end
section
open Go.RowKit
theorem QK  (l : (List Ad)) : Bo Try.prog 41 [.one (lst 2 Ad.c l)] (.av (.one (.clo 67 1 (BE [.eptr 1 1 (gD [lst 2 Ad.c l]) 0 0])))) := by
 refine AX Try.func41 rfl kr kr fun W0 M0 => ?_
 refine AC <| rn ⟨[(1, tP 1 0)], [(1, .cells [lst 2 Ad.c l] 31)]⟩ <| AC ?_
 refine rn ⟨[(2, tO (.clo 67 1 (BE [.ptr 1 0])))], [(1, .cells [lst 2 Ad.c l] 31)]⟩ <| Aj ?_
 exact ⟨_, Cv.trans (Iy (⟨[(2, .av (.one (.clo 67 1 (BE [.eptr 1 1 (gD [lst 2 Ad.c l]) 0 0]))))], []⟩) 1 [lst 2 Ad.c l] 31 (K := []) (fun k x h => by cases h) kr kr kr kr) (Cv.refl _), .inl rfl, .av (.one (.clo 67 1 (BE [.eptr 1 1 (gD [lst 2 Ad.c l]) 0 0]))), by kernel_rfl, Ao rfl⟩
def cpads (b : AF) (types : (List AG)) : FuncId × List Av × Ef := (42, [.agg (Ag b), .one (lst 3 AG.c types)], .val [] (.av (.one (.clo 68 2 (BE [.eptr 15 1 (fun _ j_ => ((Ag b) : List Cl).getD j_ default) 0 0, .eptr 1 1 (fun _ j_ => ([lst 3 AG.c types] : List Cl).getD j_ default) 0 0])))))
theorem ppads (b : AF) (types : (List AG)) : Bo Try.prog 42 (cpads b types).2.1 (.av (.one (.clo 68 2 (BE [.eptr 15 1 (gD (Ag b)) 0 0, .eptr 1 1 (gD [lst 3 AG.c types]) 0 0])))) := by
 refine AX Try.func42 rfl kr kr fun W0 M0 => ?_
 refine AC <| rn ⟨[(2, tP 2 0), (3, tP 3 0)], [(2, .cells (Ag b) 42), (3, .cells [lst 3 AG.c types] 43)]⟩ <| AC ?_
 refine rn ⟨[(4, tO (.clo 68 2 (BE [.ptr 2 0, .ptr 3 0])))], [(2, .cells (Ag b) 42), (3, .cells [lst 3 AG.c types] 43)]⟩ <| Aj ?_
 exact ⟨_, Cv.trans (Iy (⟨[(4, .av (.one (.clo 68 2 (BE [.eptr 15 1 (gD (Ag b)) 0 0, .ptr 3 0]))))], [(3, .cells [lst 3 AG.c types] 43)]⟩) 2 (Ag b) 42 (K := []) (fun k x h => by cases h) kr kr kr kr) (Cv.trans (Iy (⟨[(4, .av (.one (.clo 68 2 (BE [.eptr 15 1 (gD (Ag b)) 0 0, .eptr 1 1 (gD [lst 3 AG.c types]) 0 0]))))], []⟩) 3 [lst 3 AG.c types] 43 (K := []) (fun k x h => by cases h) kr kr kr kr) (Cv.refl _)), .inl rfl, .av (.one (.clo 68 2 (BE [.eptr 15 1 (gD (Ag b)) 0 0, .eptr 1 1 (gD [lst 3 AG.c types]) 0 0]))), by kernel_rfl, Ao rfl⟩
def Em (s : AQ) (m : AO) : Nat -> List AH -> Int -> AQ
 | 0, _, _ => default
 | n0 + 1, s_1, v13 => bif decide ((v13 : Int) < ((s.Edges.length : Nat) : Int)) then ((Em s m n0) (s_1.set v13.toNat (CJ (s_1.getD v13.toNat default) m)) (v13 + 1)) else (AQ.mk s.Kind s_1 s.R)
def CX (s : AQ) (m : AO) : AQ := Em s m ((((s.Edges.length : Nat) : Int) - 0).toNat + 1) s.Edges 0
def I3 (s : AQ) (m : AO) : FuncId × List Av × Ef := (15, [.agg (AQ.c s), .agg (AO.c m)], .val [] (.av (.agg (AQ.c (CX s m)))))
theorem UX (s : AQ) (m : AO) (h0 : (s.Edges.length : Int) <= 1000000) : Bo Try.prog 15 (I3 s m).2.1 (.av (.agg (AQ.c (CX s m)))) := by
 refine AX Try.func15 rfl kr kr fun W0 M0 => ?_
 refine AC <| rn ⟨[(2, tP 2 0), (3, tP 3 0), (4, tP 4 0)], [(2, .cells (AQ.c s) 29), (3, .cells (AO.c m) 66), (4, .cells [.i 0, vN, .i 0] 29)]⟩ <| AC ?_
 refine rc [(8, FF s.Edges)] [Al (FF s.Edges).2.1] ⟨[(2, tP 2 0), (3, tP 3 0), (4, tP 4 0)], [(2, .cells [.i s.Kind, .own 8 7 s.Edges.length, .i s.R] 29), (3, .cells (AO.c m) 66), (4, .cells [.i 0, vN, .i 0] 29), (8, .row 7 s.Edges.length (AY AH.c s.Edges) 133)]⟩ (.cons (J7 s.Edges au13) .nil) (.cons rfl .nil) <| AJ ?_
 refine Bl (Cv.trans (BR (⟨[(2, tP 2 0), (3, tP 3 0), (4, tP 4 0)], [(2, .cells [.i s.Kind, .own 8 7 s.Edges.length, .i s.R] 29), (3, .cells (AO.c m) 66), (4, .cells [.i 0, vN, .i 0] 29), (8, .row 7 s.Edges.length (AY AH.c s.Edges) 133)]⟩) lr (.cons ⟨rfl, .cells _ (rr (.cons (.own _ _ au2) (rr .nil)))⟩ (.cons ⟨rfl, .refl _⟩ (.cons ⟨rfl, .refl _⟩ (.cons ⟨rfl, Aw 133 (BK 7 AH.c s.Edges)⟩ .nil))))) (Cv.refl _)) <| AC <| AC ?_
 refine rn ⟨[(2, tP 2 0), (3, tP 3 0), (4, tP 4 0), (12, tI ((s.Edges.length : Nat) : Int)), (13, tI 0)], [(2, .cells [.i s.Kind, .own 8 7 s.Edges.length, .i s.R] 29), (3, .cells (AO.c m) 66), (4, .cells [.i 0, vN, .i 0] 29), (8, .row 7 s.Edges.length (AY AH.c s.Edges) 133)]⟩ <| Af ?_
 refine BL (ι := Nat × List AH × Int) (fun x => ⟨[(2, tP 2 0), (3, tP 3 0), (4, tP 4 0), (12, tI ((s.Edges.length : Nat) : Int)), (13, tI x.2.2)], [(2, .cells [.i s.Kind, .own 8 7 x.2.1.length, .i s.R] 29), (3, .cells (AO.c m) 66), (4, .cells [.i 0, vN, .i 0] 29), (8, .row 7 x.2.1.length (AY AH.c x.2.1) 133)]⟩) (fun x => (((s.Edges.length : Nat) : Int) - x.2.2).toNat < x.1 /\ (x.2.1.length = s.Edges.length /\ 0 <= x.2.2 /\ (x.2.2 <= ((s.Edges.length : Nat) : Int) \/ x.2.2 = 0)) /\ Em s m x.1 x.2.1 x.2.2 = CX s m) (fun x => x.1) ?_ ((((s.Edges.length : Nat) : Int) - 0).toNat + 1, s.Edges, 0) ⟨Nat.lt_succ_self _, ⟨ax0, ax0, ax0⟩, (by simp only [CX, cond_true, cond_false])⟩
 rintro ⟨n0, s_1, v13⟩ ⟨hn, hinv, hF⟩
 have hm0 := hn; have hinv0 := hinv; have hF0 := hF; try dsimp only at hm0 hinv0 hF0
 clear hn hinv hF
 cases n0 with
 | zero => exact absurd hm0 (Nat.not_lt_zero _)
 | succ n0 =>
  refine AC <| rn ⟨[(2, tP 2 0), (3, tP 3 0), (4, tP 4 0), (12, tI ((s.Edges.length : Nat) : Int)), (13, tI v13), (14, tB (decide ((v13 : Int) < ((s.Edges.length : Nat) : Int))))], [(2, .cells [.i s.Kind, .own 8 7 s_1.length, .i s.R] 29), (3, .cells (AO.c m) 66), (4, .cells [.i 0, vN, .i 0] 29), (8, .row 7 s_1.length (AY AH.c s_1) 133)]⟩ <| AC ?_
  refine Ae _ rfl (fun h1 => ?_) (fun h1 => ?_)
  ·have g1 := oT h1
   refine Ak <| AJ ?_
   refine AC <| Af <| AC ?_
   refine rn ⟨[(2, tP 2 0), (3, tP 3 0), (4, tP 4 0), (5, tI v13), (12, tI ((s.Edges.length : Nat) : Int)), (13, tI v13)], [(2, .cells [.i s.Kind, .own 8 7 s_1.length, .i s.R] 29), (3, .cells (AO.c m) 66), (4, .cells [.i 0, vN, .i 0] 29), (8, .row 7 s_1.length (AY AH.c s_1) 133)]⟩ ?_
   refine dw [] [(25, Lj (s_1.getD v13.toNat default) m)] [0 <= (v13 : Int) /\ (v13 : Int) < ((s_1.length : Nat) : Int), v13.toNat < s_1.length, Al (Lj (s_1.getD v13.toNat default) m).2.1, 0 <= (v13 : Int) /\ (v13 : Int) < ((s_1.length : Nat) : Int), v13.toNat < s_1.length] ⟨[(2, tP 2 0), (3, tP 3 0), (4, tP 4 0), (12, tI ((s.Edges.length : Nat) : Int)), (13, tI v13)], [(2, .cells [.i s.Kind, .own 8 7 s_1.length, .i s.R] 29), (3, .cells (AO.c m) 66), (4, .cells [.i 0, vN, .i 0] 29), (8, .row 7 s_1.length (fun i_ j_ => if i_ = v13.toNat /\ 0 <= j_ /\ j_ < 0 + 7 then ([.i (CJ (s_1.getD v13.toNat default) m).Kind, .i (CJ (s_1.getD v13.toNat default) m).A.X, .i (CJ (s_1.getD v13.toNat default) m).A.Y, .i (CJ (s_1.getD v13.toNat default) m).B.X, .i (CJ (s_1.getD v13.toNat default) m).B.Y, .i (CJ (s_1.getD v13.toNat default) m).C.X, .i (CJ (s_1.getD v13.toNat default) m).C.Y] : List Cl).getD (j_ - 0) default else (AY AH.c s_1) i_ j_) 133)]⟩ (.cons (Um (s_1.getD v13.toNat default) m) .nil) (.cons au0 (.cons au0 (.cons rfl (.cons au0 (.cons au0 .nil))))) <| Bq <| AJ ?_
   refine Bl (Cv.trans (BR (⟨[(2, tP 2 0), (3, tP 3 0), (4, tP 4 0), (12, tI ((s.Edges.length : Nat) : Int)), (13, tI v13)], [(2, .cells [.i s.Kind, .own 8 7 (s_1.set v13.toNat (CJ (s_1.getD v13.toNat default) m)).length, .i s.R] 29), (3, .cells (AO.c m) 66), (4, .cells [.i 0, vN, .i 0] 29), (8, .row 7 (s_1.set v13.toNat (CJ (s_1.getD v13.toNat default) m)).length (AY AH.c (s_1.set v13.toNat (CJ (s_1.getD v13.toNat default) m))) 133)]⟩) lr (.cons ⟨rfl, .cells _ (rr (.cons (.own _ _ au2) (rr .nil)))⟩ (.cons ⟨rfl, .refl _⟩ (.cons ⟨rfl, .refl _⟩ (.cons ⟨rfl, Aw 133 (Jl (l := [.i (CJ (s_1.getD v13.toNat default) m).Kind, .i (CJ (s_1.getD v13.toNat default) m).A.X, .i (CJ (s_1.getD v13.toNat default) m).A.Y, .i (CJ (s_1.getD v13.toNat default) m).B.X, .i (CJ (s_1.getD v13.toNat default) m).B.Y, .i (CJ (s_1.getD v13.toNat default) m).C.X, .i (CJ (s_1.getD v13.toNat default) m).C.Y]) (off := 0) (q := 7) (k := v13.toNat) (BK 7 AH.c s_1) au0 (CJ (s_1.getD v13.toNat default) m) (GQ kr))⟩ .nil))))) (Cv.refl _)) ?_
   refine rg ⟨[(2, tP 2 0), (3, tP 3 0), (4, tP 4 0), (12, tI ((s.Edges.length : Nat) : Int)), (13, tI (W64 (v13 + 1)))], [(2, .cells [.i s.Kind, .own 8 7 (s_1.set v13.toNat (CJ (s_1.getD v13.toNat default) m)).length, .i s.R] 29), (3, .cells (AO.c m) 66), (4, .cells [.i 0, vN, .i 0] 29), (8, .row 7 (s_1.set v13.toNat (CJ (s_1.getD v13.toNat default) m)).length (AY AH.c (s_1.set v13.toNat (CJ (s_1.getD v13.toNat default) m))) 133)]⟩ ?_
   (try rw [(show W64 (v13 + 1) = v13 + 1 from BP (by omega) au9)])
   refine AJ ?_
   refine ⟨(n0, s_1.set v13.toNat (CJ (s_1.getD v13.toNat default) m), v13 + 1), ⟨?_, ?_, (by rw [<- hF0]; simp only [Em, h1, cond_true, cond_false])⟩, Nat.lt_succ_self _, A6 kr⟩
   ·show (((s.Edges.length : Nat) : Int) - (v13 + 1)).toNat < n0; omega
   ·exact ⟨ax0, ax0, ax0⟩
  ·have g1 := oF h1
   refine BZ <| BI ?_
   refine BI <| Ba ?_
   refine AJ <| AC ?_
   refine rn ⟨[(4, tP 4 0)], [(4, .cells [.i s.Kind, .own 8 7 s_1.length, .i s.R] 29), (8, .row 7 s_1.length (AY AH.c s_1) 133)]⟩ <| Aj ?_
   exact ⟨_, Cv.trans (Cu (⟨[(4, tP 4 0)], [(4, .cells [.i s.Kind, lst 7 AH.c s_1, .i s.R] 29)]⟩) 8 7 s_1.length (AY AH.c s_1) 133 (K := []) (fun k x h => by cases h) kr kr (.cons ⟨rfl, rfl⟩ .nil) kr) (Cv.refl _), .inl rfl, .av (.agg [.i s.Kind, lst 7 AH.c s_1, .i s.R]), by kernel_rfl, Ao (by rw [<- hF0]; first | (simp only [Em, h1, cond_true, cond_false] <;> rfl))⟩
theorem TW (s : AQ) (m : AO) (h0 : (s.Edges.length : Int) <= 1000000) : A1 Try.prog (I3 s m).1 (I3 s m).2.1 (I3 s m).2.2 := Aa (fun _ _ => kr) fun _ => UX s m h0
def Bk (p : AR) : Value := .agg #[.string p.Ref, .string p.Pad]
def Au (a b : AR) : Bool := eqS a.Ref b.Ref && eqS a.Pad b.Pad
theorem LZ (a b : AR) : Au a b = true ↔ Bk a = Bk b := by
 unfold Au Bk
 rw [Bool.and_eq_true, O5, O5]
 simp
theorem Nv (k : AR) : ER Try.prog eqE 25 (Bk k) := .inr ⟨_, _, _, rfl, rfl, by kernel_rfl, rfl, rfl⟩
theorem QN {b : AF} {types : List AG} (ht : B1 types) (k : Nat) : (((AP b types).getD k default).2.Shape.Edges.length : Int) <= 1000000 := by
 refine GY (p := fun x : AD × Ap => (x.2.Shape.Edges.length : Int) <= 1000000) (by decide) (fun x hx => ?_) k
 unfold AP at hx
 obtain ⟨p, _, hp⟩ := List.mem_flatMap.1 hx
 unfold EX at hp
 obtain ⟨q, hq, rfl⟩ := List.mem_map.1 hp
 rw [Fq] at hq
 unfold MQ at hq
 cases hf : types.find? (fun t => E5 t p.Type') with
 | none => rw [hf] at hq; cases hq
 | some t => rw [hf] at hq; exact (ht.2 t (List.mem_of_find?_eq_some hf)).2.2.1 q hq
theorem LD {b : AF} {types : List AG} (hp : b.Parts.length < 20) (ht : B1 types) : ((AP b types).length : Int) <= 20000000 := by
 have key : ∀ l : List AD, ((l.flatMap (EX types)).length : Int) <= 1000000 * (l.length : Int) := by
  intro l
  induction l with
  | nil => simp
  | cons p l ih =>
   rw [List.flatMap_cons, List.length_append, Hp, Fq, List.length_cons]
   have := GV ht p.Type'
   omega
 have h1 := key (BN b.Parts)
 have h2 := HU b.Parts hp
 unfold AP
 omega
def Bs (x0 : AD) : AO := AO.mk x0.At x0.Turn x0.Under
def Es (x0 : AD) : FuncId × List Av × Ef := (20, [.agg (AD.c x0)], .val [] (.av (.agg (AO.c (Bs x0)))))
theorem TM (x0 : AD) : Bo Try.prog 20 (Es x0).2.1 (.av (.agg (AO.c (Bs x0)))) := by
 refine AX Try.func20 rfl kr kr fun W0 M0 => ?_
 refine AC <| rn ⟨[(1, tP 1 0), (2, tP 2 0)], [(1, .cells (AD.c x0) 59), (2, .cells [.i 0, .i 0, .i 0, .b false] 66)]⟩ <| AC ?_
 refine rn ⟨[(2, tP 2 0)], [(2, .cells [.i x0.At.X, .i x0.At.Y, .i x0.Turn, .b x0.Under] 66)]⟩ <| Aj ?_
 exact ⟨_, Cv.refl _, .inl rfl, .av (.agg [.i x0.At.X, .i x0.At.Y, .i x0.Turn, .b x0.Under]), by kernel_rfl, Ao (by rfl)⟩
theorem J9 (x0 : AD) : A1 Try.prog (Es x0).1 (Es x0).2.1 (Es x0).2.2 := Aa (fun _ _ => kr) fun _ => TM x0
def CL (b : AF) (p : AD) : Int := bif p.Under then b.Layers else 1
def Hi (b : AF) (p : AD) : FuncId × List Av × Ef := (34, [.agg (Ag b), .agg (AD.c p)], .val [] (.av (.one (.i (CL b p)))))
theorem pside (b : AF) (p : AD) : Bo Try.prog 34 (Hi b p).2.1 (tO (.i (CL b p))) := by
 refine AX Try.func34 rfl kr kr fun W0 M0 => ?_
 refine AC <| rn ⟨[(2, tP 2 0), (3, tP 3 0)], [(2, .cells (Ag b) 42), (3, .cells (AD.c p) 59)]⟩ ?_
 refine AC <| AC ?_
 refine rn ⟨[(2, tP 2 0), (6, tB p.Under)], [(2, .cells (Ag b) 42)]⟩ ?_
 refine Ae p.Under kr (fun h1 => ?_) (fun h1 => ?_)
 ·refine AC <| rn ⟨[(4, tI b.Layers)], []⟩ ?_
  refine Aj <| BO ?_
  exact ⟨_, Cv.refl _, .inl rfl, tO (.i b.Layers), by kernel_rfl, Ao (by first | (simp only [CL, h1, cond_true, cond_false] <;> rfl))⟩
 ·refine Ak <| AJ <| AC ?_
  refine rn ⟨[(4, tI 1)], []⟩ <| Aj ?_
  exact ⟨_, Cv.refl _, .inl rfl, tO (.i 1), by kernel_rfl, Ao (by first | (simp only [CL, h1, cond_true, cond_false] <;> rfl))⟩
theorem Of (b : AF) (p : AD) : A1 Try.prog (Hi b p).1 (Hi b p).2.1 (Hi b p).2.2 := Aa (fun _ _ => kr) fun _ => pside b p
end
section
open Go.RowKit
def Z0j (b : AF) : FuncId × List Av × Ef := (41, [.one (lst 2 Ad.c b.Nets)], .val [] (.av (.one (.clo 67 1 (BE [.eptr 1 1 (fun _ j_ => ([lst 2 Ad.c b.Nets] : List Cl).getD j_ default) 0 0])))))
def Z0k (b : AF) (types : (List AG)) : FuncId × List Av × Ef := (42, [.agg (Ag b), .one (lst 3 AG.c types)], .val [] (.av (.one (.clo 68 2 (BE [.eptr 15 1 (fun _ j_ => ((Ag b) : List Cl).getD j_ default) 0 0, .eptr 1 1 (fun _ j_ => ([lst 3 AG.c types] : List Cl).getD j_ default) 0 0])))))
def Ff (b : AF) (types : (List AG)) (AL : List (AR × ByteArray)) (x0 : Nat) (K0 : List (AR × ByteArray) -> (List Ar)) : Nat -> List (AR × ByteArray) -> Int -> (List Ar)
 | 0, _, _ => default
 | n1 + 1, A3, v23 => bif decide ((v23 : Int) < ((b.Nets.getD (b.Nets.length - 1 - x0) default).Pins.length : Int)) then ((Ff b types AL x0 K0 n1) (E6 Au A3 ((b.Nets.getD (b.Nets.length - 1 - x0) default).Pins.getD v23.toNat default) (b.Nets.getD (b.Nets.length - 1 - x0) default).Name) (v23 + 1)) else (K0 A3)
def C6 (b : AF) (types : (List AG)) (AL : List (AR × ByteArray)) (K0 : List (AR × ByteArray) -> (List Ar)) : Nat -> Nat -> List Ar -> (List Ar)
 | 0, _, Aq => Aq
 | m + 1, x, Aq => (C6 b types AL K0 m (x + 1)) (Aq ++ [Ar.mk ((AP b types).getD x default).1.Id ((AP b types).getD x default).2.Name 1 (bif Cw Au AL (AR.mk ((AP b types).getD x default).1.Ref ((AP b types).getD x default).2.Name) then (AL.getD (CG Au AL (AR.mk ((AP b types).getD x default).1.Ref ((AP b types).getD x default).2.Name)) default).2 else ⟨#[]⟩) (bif decide ((((AP b types).getD x default).2.Drill : Int) = 0) then (CL b ((AP b types).getD x default).1) else 1) (bif decide ((((AP b types).getD x default).2.Drill : Int) = 0) then (CL b ((AP b types).getD x default).1) else b.Layers) (CX ((AP b types).getD x default).2.Shape (Bs ((AP b types).getD x default).1))])
def Cm (b : AF) (types : (List AG)) : Nat -> Nat -> List (AR × ByteArray) -> (List Ar)
 | 0, _, AL => C6 b types AL (fun _ => default) (AP b types).length 0 ([] : List Ar)
 | m + 1, x, AL => Ff b types AL x (Cm b types m (x + 1)) ((((b.Nets.getD (b.Nets.length - 1 - x) default).Pins.length : Int) - 0).toNat + 1) AL 0
def B3 (b : AF) (types : (List AG)) : (List Ar) := Cm b types b.Nets.length 0 ([] : List (AR × ByteArray))
theorem qPads (b : AF) (types : (List AG)) (hn : (b.Nets.length : Int) <= 1000000) (hp : b.Parts.length < 20) (ht : B1 types) (hm : ((AP b types).length : Int) <= 20000000) (hq : ∀ n ∈ b.Nets, (n.Pins.length : Int) <= 1000000) : Fr Try.prog 14 [.agg (Ag b), .one (lst 3 AG.c types)] (.row 9 (B3 b types).length (AY Ar.c (B3 b types)) 63) (fun d => tO (.own d 9 (B3 b types).length)) := by
 refine EZ Try.func14 rfl kr (FV _ _) fun W0 M0 => ?_
 refine AC <| rn ⟨[(1, tO (lst 3 AG.c types)), (2, tP 2 0)], [(2, .cells (Ag b) 42)]⟩ <| AC ?_
 refine rn ⟨[(1, tO (lst 3 AG.c types)), (2, tP 2 0), (5, tP 5 0)], [(2, .cells (Ag b) 42), (5, .cells [.om 14] 124), (14, .omap false 1 0 (fun _ => undef) (fun _ _ => default))]⟩ ?_
 refine Bl (Cv.trans (BR (⟨[(1, tO (lst 3 AG.c types)), (2, tP 2 0), (5, tP 5 0)], [(2, .cells (Ag b) 42), (5, .cells [.om 14] 124), (14, .omap false 1 ([] : List (AR × ByteArray)).length (kfG Bk ([] : List (AR × ByteArray))) (vfG (fun x => [.s x]) ([] : List (AR × ByteArray))))]⟩) lr (.cons ⟨rfl, .refl _⟩ (.cons ⟨rfl, .refl _⟩ (.cons ⟨rfl, Sc (ck := Bk) (cv := (fun x => [.s x]))⟩ .nil)))) (Cv.refl _)) <| AC <| AC ?_
 refine rc [(17, (Z0j b))] [Al (Z0j b).2.1] ⟨[(1, tO (lst 3 AG.c types)), (2, tP 2 0), (5, tP 5 0), (17, .av (.one (.clo 67 1 (BE [.eptr 1 1 (gD [lst 2 Ad.c b.Nets]) 0 0]))))], [(2, .cells (Ag b) 42), (5, .cells [.om 14] 124), (14, .omap false 1 ([] : List (AR × ByteArray)).length (kfG Bk ([] : List (AR × ByteArray))) (vfG (fun x => [.s x]) ([] : List (AR × ByteArray))))]⟩ (.cons (Aa (fun _ _ => kr) fun _ => QK b.Nets) .nil) (.cons rfl .nil) <| AJ <| Af ?_
 refine Bl (Cv.trans (Be (⟨[(1, tO (lst 3 AG.c types)), (2, tP 200002 0), (5, tP 5 0), (17, .av (.one (.clo 67 1 (BE [.eptr 1 1 (gD [lst 2 Ad.c b.Nets]) 0 0]))))], [(200002, .cells (Ag b) 42), (5, .cells [.om 14] 124), (14, .omap false 1 ([] : List (AR × ByteArray)).length (kfG Bk ([] : List (AR × ByteArray))) (vfG (fun x => [.s x]) ([] : List (AR × ByteArray))))]⟩) 2 200002 (K := []) (fun k x h => by cases h) rfl rfl kr kr) (Cv.trans (Be (⟨[(1, tO (lst 3 AG.c types)), (2, tP 200002 0), (5, tP 200005 0), (17, .av (.one (.clo 67 1 (BE [.eptr 1 1 (gD [lst 2 Ad.c b.Nets]) 0 0]))))], [(200002, .cells (Ag b) 42), (200005, .cells [.om 14] 124), (14, .omap false 1 ([] : List (AR × ByteArray)).length (kfG Bk ([] : List (AR × ByteArray))) (vfG (fun x => [.s x]) ([] : List (AR × ByteArray))))]⟩) 5 200005 (K := []) (fun k x h => by cases h) rfl rfl kr kr) (Cv.trans (Be (⟨[(1, tO (lst 3 AG.c types)), (2, tP 200002 0), (5, tP 200005 0), (17, .av (.one (.clo 67 1 (BE [.eptr 1 1 (gD [lst 2 Ad.c b.Nets]) 0 0]))))], [(200002, .cells (Ag b) 42), (200005, .cells [.om 200014] 124), (200014, .omap false 1 ([] : List (AR × ByteArray)).length (kfG Bk ([] : List (AR × ByteArray))) (vfG (fun x => [.s x]) ([] : List (AR × ByteArray))))]⟩) 14 200014 (K := []) (fun k x h => by cases h) rfl rfl kr kr) (Cv.refl _)))) ?_
 refine Kb (ι := List (AR × ByteArray)) [200002, 200005, 200014] 299999 200002 9999 299998 (fun x => [(200002, .cells (Ag b) 42), (200005, .cells [.om 200014] 124), (200014, .omap false 1 x.length (kfG Bk x) (vfG (fun x => [.s x]) x))]) (fun x0 => [(1, tO (lst 3 AG.c types)), (2, tP 200002 0), (5, tP 200005 0), (7, .av (.one (.eptr 2 1 (gD (Ad.c (b.Nets.getD (b.Nets.length - 1 - x0.val) default))) 0 0))), (17, .av (.one (.clo 67 1 (BE [.eptr 1 1 (gD [lst 2 Ad.c b.Nets]) 0 0]))))]) (fun j x => True) (fun y x => Cm b types (b.Nets.length - y) y x = B3 b types) ([] : List (AR × ByteArray)) (fun _ => rfl) kr kr (fun _ _ => kr) (Ts b.Nets (by omega)) kr (fun _ => by kernel_rfl) (fun _ => rfl) (fun _ => rfl) (fun x => (Cr (p := BkN) (by simp only [List.forall_mem_cons]; exact ⟨Ny (Im _), Ny (by simp only [List.forall_mem_cons]; exact ⟨(.om _), fun x hx => by cases hx⟩), UG (fun x y hy => by rw [List.mem_singleton.1 hy]; exact (.val _)), fun x hx => by cases hx⟩))) (fun x0 => (Cr (p := TvM) (by simp only [List.forall_mem_cons]; exact ⟨B5 (CN KA), B5 (.ptr _ _), B5 (.ptr _ _), B5 (Fs (MC _)), B5 (Rl (by simp only [List.forall_mem_cons]; exact ⟨(Fs (by simp only [List.forall_mem_cons]; exact ⟨(CN MC), fun x hx => by cases hx⟩)), fun x hx => by cases hx⟩)), fun x hx => by cases hx⟩))) (fun _ => by kernel_rfl) ax0 (by simp only [B3, Nat.sub_zero, cond_true, cond_false]) (fun l1 W1 M1 X1 x0 j AL hinv hPX => ?_) (fun l2 W2 M2 X2 x0 j AL hPX hj hinv => ?_) (fun AL hinv hF0 => ?_)
 ·have hinv0 : True := hinv; clear hinv
  refine D2 ?_
  refine rg ⟨[(1, tO (lst 3 AG.c types)), (2, tP 200002 0), (5, tP 200005 0), (7, tP 7 0), (17, .av (.one (.clo 67 1 (BE [.eptr 1 1 (gD [lst 2 Ad.c b.Nets]) 0 0]))))], [(7, .cells (Ad.c (b.Nets.getD (b.Nets.length - 1 - x0.val) default)) 48), (200002, .cells (Ag b) 42), (200005, .cells [.om 200014] 124), (200014, .omap false 1 AL.length (kfG Bk AL) (vfG (fun x => [.s x]) AL))]⟩ ?_
  exact ⟨_, Cv.trans (KW (⟨[(1, tO (lst 3 AG.c types)), (2, tP 200002 0), (5, tP 200005 0), (7, .av (.one (.eptr 2 1 (gD (Ad.c (b.Nets.getD (b.Nets.length - 1 - x0.val) default))) 0 0))), (17, .av (.one (.clo 67 1 (BE [.eptr 1 1 (gD [lst 2 Ad.c b.Nets]) 0 0]))))], [(200002, .cells (Ag b) 42), (200005, .cells [.om 200014] 124), (200014, .omap false 1 AL.length (kfG Bk AL) (vfG (fun x => [.s x]) AL))]⟩) 7 (Ad.c (b.Nets.getD (b.Nets.length - 1 - x0.val) default)) 48 [200002, 200005, 200014] 299998 hPX kr (fun h => by obtain ⟨_, h⟩ := h; cases h) kr kr kr) (Cv.refl _), rfl, rfl⟩
 ·have hinv0 : True := hinv; clear hinv
  obtain ⟨Xb0, hXb0⟩ : ∃ Xb, Cm b types (b.Nets.length - x0.val) x0.val AL = Xb := ⟨_, rfl⟩
  have hF0 := hXb0
  rw [show b.Nets.length - x0.val = (b.Nets.length - (x0.val + 1)) + 1 by have := x0.isLt; omega] at hF0
  have hqx := GY (p := fun n : Ad => (n.Pins.length : Int) <= 1000000) (by decide) hq (b.Nets.length - 1 - x0.val)
  refine D2 <| Af <| AC ?_
  refine rn ⟨[(1, tO (lst 3 AG.c types)), (2, tP 200002 0), (5, tP 200005 0), (7, .av (.one (.eptr 2 1 (gD (Ad.c (b.Nets.getD (b.Nets.length - 1 - x0.val) default))) 0 0))), (17, .av (.one (.clo 67 1 (BE [.eptr 1 1 (gD [lst 2 Ad.c b.Nets]) 0 0])))), (21, tO (lst 2 AR.c (b.Nets.getD (b.Nets.length - 1 - x0.val) default).Pins)), (22, tI ((b.Nets.getD (b.Nets.length - 1 - x0.val) default).Pins.length : Int)), (23, tI 0)], [(200002, .cells (Ag b) 42), (200005, .cells [.om 200014] 124), (200014, .omap false 1 AL.length (kfG Bk AL) (vfG (fun x => [.s x]) AL))]⟩ <| Af ?_
  refine BL (ι := Nat × List (AR × ByteArray) × Int) (fun x => ⟨[(1, tO (lst 3 AG.c types)), (2, tP 200002 0), (5, tP 200005 0), (7, .av (.one (.eptr 2 1 (gD (Ad.c (b.Nets.getD (b.Nets.length - 1 - x0.val) default))) 0 0))), (17, .av (.one (.clo 67 1 (BE [.eptr 1 1 (gD [lst 2 Ad.c b.Nets]) 0 0])))), (21, tO (lst 2 AR.c (b.Nets.getD (b.Nets.length - 1 - x0.val) default).Pins)), (22, tI ((b.Nets.getD (b.Nets.length - 1 - x0.val) default).Pins.length : Int)), (23, tI x.2.2)], [(200002, .cells (Ag b) 42), (200005, .cells [.om 200014] 124), (200014, .omap false 1 x.2.1.length (kfG Bk x.2.1) (vfG (fun x => [.s x]) x.2.1))]⟩) (fun x => (((b.Nets.getD (b.Nets.length - 1 - x0.val) default).Pins.length : Int) - x.2.2).toNat < x.1 /\ (0 <= x.2.2 /\ (x.2.2 <= ((b.Nets.getD (b.Nets.length - 1 - x0.val) default).Pins.length : Int) \/ x.2.2 = 0)) /\ Ff b types AL x0.val (Cm b types (b.Nets.length - (x0.val + 1)) (x0.val + 1)) x.1 x.2.1 x.2.2 = Xb0) (fun x => x.1) ?_ ((((b.Nets.getD (b.Nets.length - 1 - x0.val) default).Pins.length : Int) - 0).toNat + 1, AL, 0) ⟨Nat.lt_succ_self _, ⟨ax0, ax0⟩, (by rw [<- hF0]; simp only [Cm, cond_true, cond_false])⟩
  rintro ⟨n1, A3, v23⟩ ⟨hn, hinv, hF⟩
  have hm1 := hn; have hinv1 := hinv; have hF1 := hF; try dsimp only at hm1 hinv1 hF1
  clear hn hinv hF
  cases n1 with
  | zero => exact absurd hm1 (Nat.not_lt_zero _)
  | succ n1 =>
   refine AC <| rn ⟨[(1, tO (lst 3 AG.c types)), (2, tP 200002 0), (5, tP 200005 0), (7, .av (.one (.eptr 2 1 (gD (Ad.c (b.Nets.getD (b.Nets.length - 1 - x0.val) default))) 0 0))), (17, .av (.one (.clo 67 1 (BE [.eptr 1 1 (gD [lst 2 Ad.c b.Nets]) 0 0])))), (21, tO (lst 2 AR.c (b.Nets.getD (b.Nets.length - 1 - x0.val) default).Pins)), (22, tI ((b.Nets.getD (b.Nets.length - 1 - x0.val) default).Pins.length : Int)), (23, tI v23), (24, tB (decide ((v23 : Int) < ((b.Nets.getD (b.Nets.length - 1 - x0.val) default).Pins.length : Int))))], [(200002, .cells (Ag b) 42), (200005, .cells [.om 200014] 124), (200014, .omap false 1 A3.length (kfG Bk A3) (vfG (fun x => [.s x]) A3))]⟩ <| AC ?_
   refine Ae _ rfl (fun h1 => ?_) (fun h1 => ?_)
   ·have g1 := oT h1
    refine Ak <| AJ ?_
    refine AC <| Af <| AC ?_
    refine rc [] [0 <= (v23 : Int) /\ (v23 : Int) < (((b.Nets.getD (b.Nets.length - 1 - x0.val) default).Pins.length : Nat) : Int)] ⟨[(1, tO (lst 3 AG.c types)), (2, tP 200002 0), (5, tP 200005 0), (7, .av (.one (.eptr 2 1 (gD (Ad.c (b.Nets.getD (b.Nets.length - 1 - x0.val) default))) 0 0))), (9, tP 9 0), (17, .av (.one (.clo 67 1 (BE [.eptr 1 1 (gD [lst 2 Ad.c b.Nets]) 0 0])))), (21, tO (lst 2 AR.c (b.Nets.getD (b.Nets.length - 1 - x0.val) default).Pins)), (22, tI ((b.Nets.getD (b.Nets.length - 1 - x0.val) default).Pins.length : Int)), (23, tI v23)], [(9, .cells (AR.c ((b.Nets.getD (b.Nets.length - 1 - x0.val) default).Pins.getD v23.toNat default)) 25), (200002, .cells (Ag b) 42), (200005, .cells [.om 200014] 124), (200014, .omap false 1 A3.length (kfG Bk A3) (vfG (fun x => [.s x]) A3))]⟩ .nil (.cons au0 .nil) <| AJ ?_
    refine Da Dz [] [(999999, ((Cw Au A3 ((b.Nets.getD (b.Nets.length - 1 - x0.val) default).Pins.getD v23.toNat default)), (CG Au A3 ((b.Nets.getD (b.Nets.length - 1 - x0.val) default).Pins.getD v23.toNat default))))] [] [1, 2, 5, 7, 17, 21, 22, 23] [200002, 200005, 200014] [N3 Try.prog eqE 25 A3.length (kfG Bk A3) (Bk ((b.Nets.getD (b.Nets.length - 1 - x0.val) default).Pins.getD v23.toNat default)) (Cw Au A3 ((b.Nets.getD (b.Nets.length - 1 - x0.val) default).Pins.getD v23.toNat default)) (CG Au A3 ((b.Nets.getD (b.Nets.length - 1 - x0.val) default).Pins.getD v23.toNat default))] ⟨[(1, tO (lst 3 AG.c types)), (2, tP 200002 0), (5, tP 200005 0), (7, .av (.one (.eptr 2 1 (gD (Ad.c (b.Nets.getD (b.Nets.length - 1 - x0.val) default))) 0 0))), (17, .av (.one (.clo 67 1 (BE [.eptr 1 1 (gD [lst 2 Ad.c b.Nets]) 0 0])))), (21, tO (lst 2 AR.c (b.Nets.getD (b.Nets.length - 1 - x0.val) default).Pins)), (22, tI ((b.Nets.getD (b.Nets.length - 1 - x0.val) default).Pins.length : Int)), (23, tI v23)], [(200002, .cells (Ag b) 42), (200005, .cells [.om 200014] 124), (200014, .omap false 1 (bif Cw Au A3 ((b.Nets.getD (b.Nets.length - 1 - x0.val) default).Pins.getD v23.toNat default) then A3.length else A3.length + 1) (fun j => bif Nat.beq j (bif Cw Au A3 ((b.Nets.getD (b.Nets.length - 1 - x0.val) default).Pins.getD v23.toNat default) then CG Au A3 ((b.Nets.getD (b.Nets.length - 1 - x0.val) default).Pins.getD v23.toNat default) else A3.length) then Bk ((b.Nets.getD (b.Nets.length - 1 - x0.val) default).Pins.getD v23.toNat default) else kfG Bk A3 j) (fun j c => bif Nat.beq j (bif Cw Au A3 ((b.Nets.getD (b.Nets.length - 1 - x0.val) default).Pins.getD v23.toNat default) then CG Au A3 ((b.Nets.getD (b.Nets.length - 1 - x0.val) default).Pins.getD v23.toNat default) else A3.length) then ([.s (b.Nets.getD (b.Nets.length - 1 - x0.val) default).Name] : List Cl).getD c default else vfG (fun x => [.s x]) A3 j c))]⟩ .nil kr (.cons (NZ LZ Nv _ _) .nil) <| Bq <| AJ ?_
    refine Bl (Cv.trans (BR (⟨[(1, tO (lst 3 AG.c types)), (2, tP 200002 0), (5, tP 200005 0), (7, .av (.one (.eptr 2 1 (gD (Ad.c (b.Nets.getD (b.Nets.length - 1 - x0.val) default))) 0 0))), (17, .av (.one (.clo 67 1 (BE [.eptr 1 1 (gD [lst 2 Ad.c b.Nets]) 0 0])))), (21, tO (lst 2 AR.c (b.Nets.getD (b.Nets.length - 1 - x0.val) default).Pins)), (22, tI ((b.Nets.getD (b.Nets.length - 1 - x0.val) default).Pins.length : Int)), (23, tI v23)], [(200002, .cells (Ag b) 42), (200005, .cells [.om 200014] 124), (200014, .omap false 1 (E6 Au A3 ((b.Nets.getD (b.Nets.length - 1 - x0.val) default).Pins.getD v23.toNat default) (b.Nets.getD (b.Nets.length - 1 - x0.val) default).Name).length (kfG Bk (E6 Au A3 ((b.Nets.getD (b.Nets.length - 1 - x0.val) default).Pins.getD v23.toNat default) (b.Nets.getD (b.Nets.length - 1 - x0.val) default).Name)) (vfG (fun x => [.s x]) (E6 Au A3 ((b.Nets.getD (b.Nets.length - 1 - x0.val) default).Pins.getD v23.toNat default) (b.Nets.getD (b.Nets.length - 1 - x0.val) default).Name)))]⟩) lr (.cons ⟨rfl, .refl _⟩ (.cons ⟨rfl, .refl _⟩ (.cons ⟨rfl, Sb (ck := Bk) (cv := (fun x => [.s x])) (eq := Au) A3 ((b.Nets.getD (b.Nets.length - 1 - x0.val) default).Pins.getD v23.toNat default) (b.Nets.getD (b.Nets.length - 1 - x0.val) default).Name [.s (b.Nets.getD (b.Nets.length - 1 - x0.val) default).Name] rfl⟩ .nil)))) (Cv.refl _)) ?_
    refine rg ⟨[(1, tO (lst 3 AG.c types)), (2, tP 200002 0), (5, tP 200005 0), (7, .av (.one (.eptr 2 1 (gD (Ad.c (b.Nets.getD (b.Nets.length - 1 - x0.val) default))) 0 0))), (17, .av (.one (.clo 67 1 (BE [.eptr 1 1 (gD [lst 2 Ad.c b.Nets]) 0 0])))), (21, tO (lst 2 AR.c (b.Nets.getD (b.Nets.length - 1 - x0.val) default).Pins)), (22, tI ((b.Nets.getD (b.Nets.length - 1 - x0.val) default).Pins.length : Int)), (23, tI (W64 (v23 + 1)))], [(200002, .cells (Ag b) 42), (200005, .cells [.om 200014] 124), (200014, .omap false 1 (E6 Au A3 ((b.Nets.getD (b.Nets.length - 1 - x0.val) default).Pins.getD v23.toNat default) (b.Nets.getD (b.Nets.length - 1 - x0.val) default).Name).length (kfG Bk (E6 Au A3 ((b.Nets.getD (b.Nets.length - 1 - x0.val) default).Pins.getD v23.toNat default) (b.Nets.getD (b.Nets.length - 1 - x0.val) default).Name)) (vfG (fun x => [.s x]) (E6 Au A3 ((b.Nets.getD (b.Nets.length - 1 - x0.val) default).Pins.getD v23.toNat default) (b.Nets.getD (b.Nets.length - 1 - x0.val) default).Name)))]⟩ ?_
    (try rw [(show W64 (v23 + 1) = v23 + 1 from BP (by omega) au9)])
    refine AJ ?_
    refine ⟨(n1, E6 Au A3 ((b.Nets.getD (b.Nets.length - 1 - x0.val) default).Pins.getD v23.toNat default) (b.Nets.getD (b.Nets.length - 1 - x0.val) default).Name, v23 + 1), ⟨?_, ?_, (by rw [<- hF1]; simp only [Ff, h1, cond_true, cond_false])⟩, Nat.lt_succ_self _, A6 kr⟩
    ·show (((b.Nets.getD (b.Nets.length - 1 - x0.val) default).Pins.length : Int) - (v23 + 1)).toNat < n1; omega
    ·exact ⟨ax0, ax0⟩
   ·have g1 := oF h1
    refine BZ <| BI ?_
    refine BI <| Ba <| Bq ?_
    refine ⟨_, Cv.trans (BA [1, 2, 5, 17] [200002, 200005, 200014] (⟨[(1, tO (lst 3 AG.c types)), (2, tP 200002 0), (5, tP 200005 0), (17, .av (.one (.clo 67 1 (BE [.eptr 1 1 (gD [lst 2 Ad.c b.Nets]) 0 0]))))], [(200002, .cells (Ag b) 42), (200005, .cells [.om 200014] 124), (200014, .omap false 1 A3.length (kfG Bk A3) (vfG (fun x => [.s x]) A3))]⟩) kr) (Cv.refl _), rfl, A3, ax0, fun hk hF => ?_, fun _ _ h => h⟩
    have e0 : Cm b types (b.Nets.length - (x0.val + 1)) (x0.val + 1) A3 = Xb0 := by
     rw [<- hF1]
     first | (simp only [Ff, h1, cond_true, cond_false] <;> rfl)
    subst hk
    change Cm b types (b.Nets.length - x0.val) x0.val AL = B3 b types at hF
    show Cm b types (b.Nets.length - (x0.val + 1)) (x0.val + 1) A3 = B3 b types
    exact e0.trans (hXb0.symm.trans hF)
 ·have hinv0 : True := hinv; clear hinv
  change Cm b types (b.Nets.length - b.Nets.length) b.Nets.length AL = B3 b types at hF0
  rw [Nat.sub_self] at hF0
  refine Bq <| AJ <| AC ?_
  refine rn ⟨[(1, tO (lst 3 AG.c types)), (2, tP 200002 0), (5, tP 200005 0), (10, tP 10 0)], [(10, .cells [vN] 60), (200002, .cells (Ag b) 42), (200005, .cells [.om 200014] 124), (200014, .omap false 1 AL.length (kfG Bk AL) (vfG (fun x => [.s x]) AL))]⟩ ?_
  refine AC <| AC ?_
  refine rc [(34, (Z0k b types))] [Al (Z0k b types).2.1] ⟨[(2, tP 200002 0), (5, tP 200005 0), (10, tP 10 0), (34, .av (.one (.clo 68 2 (BE [.eptr 15 1 (gD (Ag b)) 0 0, .eptr 1 1 (gD [lst 3 AG.c types]) 0 0]))))], [(10, .cells [vN] 60), (200002, .cells (Ag b) 42), (200005, .cells [.om 200014] 124), (200014, .omap false 1 AL.length (kfG Bk AL) (vfG (fun x => [.s x]) AL))]⟩ (.cons (Aa (fun _ _ => kr) fun _ => ppads b types) .nil) (.cons rfl .nil) <| AJ <| Af ?_
  refine Bl (Cv.trans (Be (⟨[(2, tP 200002 0), (5, tP 200005 0), (10, tP 200010 0), (34, .av (.one (.clo 68 2 (BE [.eptr 15 1 (gD (Ag b)) 0 0, .eptr 1 1 (gD [lst 3 AG.c types]) 0 0]))))], [(200010, .cells [vN] 60), (200002, .cells (Ag b) 42), (200005, .cells [.om 200014] 124), (200014, .omap false 1 AL.length (kfG Bk AL) (vfG (fun x => [.s x]) AL))]⟩) 10 200010 (K := []) (fun k x h => by cases h) rfl rfl kr kr) (Cv.trans (BA [2, 5, 10, 34] [200002, 200005, 200010, 200014] (⟨[(2, tP 200002 0), (5, tP 200005 0), (10, tP 200010 0), (34, .av (.one (.clo 68 2 (BE [.eptr 15 1 (gD (Ag b)) 0 0, .eptr 1 1 (gD [lst 3 AG.c types]) 0 0]))))], [(200002, .cells (Ag b) 42), (200005, .cells [.om 200014] 124), (200010, .cells [vN] 60), (200014, .omap false 1 AL.length (kfG Bk AL) (vfG (fun x => [.s x]) AL))]⟩) kr) (Cv.trans (CH (⟨[(2, tP 200002 0), (5, tP 200005 0), (10, tP 200010 0), (34, .av (.one (.clo 68 2 (BE [.eptr 15 1 (gD (Ag b)) 0 0, .eptr 1 1 (gD [lst 3 AG.c types]) 0 0]))))], [(100000, .row 9 0 (fun _ _ => default) 63), (200002, .cells (Ag b) 42), (200005, .cells [.om 200014] 124), (200010, .cells [.own 100000 9 0] 60), (200014, .omap false 1 AL.length (kfG Bk AL) (vfG (fun x => [.s x]) AL))]⟩) 100000 9 (fun _ _ => default) 63 [] [(200010, [0])] (K := []) (fun k x h => by cases h) rfl kr kr) (Cv.trans (BR (⟨[(2, tP 200002 0), (5, tP 200005 0), (10, tP 200010 0), (34, .av (.one (.clo 68 2 (BE [.eptr 15 1 (gD (Ag b)) 0 0, .eptr 1 1 (gD [lst 3 AG.c types]) 0 0]))))], [(100000, .row 9 ([] : List Ar).length (AY Ar.c ([] : List Ar)) 63), (200002, .cells (Ag b) 42), (200005, .cells [.om 200014] 124), (200010, .cells [.own 100000 9 ([] : List Ar).length] 60), (200014, .omap false 1 AL.length (kfG Bk AL) (vfG (fun x => [.s x]) AL))]⟩) lr (.cons ⟨rfl, Aw 63 (CF 9 (fun _ _ => default) Ar.c)⟩ (.cons ⟨rfl, .refl _⟩ (.cons ⟨rfl, .refl _⟩ (.cons ⟨rfl, .cells _ (.cons (.own _ _ au2) .nil)⟩ lr))))) (Cv.refl _))))) ?_
  refine Kb (ι := List Ar) [200002, 200005, 200010, 200014] 299999 200010 0 100000 (fun x => [(100000, .row 9 x.length (AY Ar.c x) 63), (200002, .cells (Ag b) 42), (200005, .cells [.om 200014] 124), (200010, .cells [.own 100000 9 x.length] 60), (200014, .omap false 1 AL.length (kfG Bk AL) (vfG (fun x => [.s x]) AL))]) (fun x2 => [(2, tP 200002 0), (5, tP 200005 0), (10, tP 200010 0), (11, .av (.one (.eptr 7 1 (gD (AD.c ((AP b types).getD x2.val default).1)) 0 0))), (12, .av (.one (.eptr 7 1 (gD (Ap.c ((AP b types).getD x2.val default).2)) 0 0))), (34, .av (.one (.clo 68 2 (BE [.eptr 15 1 (gD (Ag b)) 0 0, .eptr 1 1 (gD [lst 3 AG.c types]) 0 0]))))]) (fun j x => x.length <= j) (fun y x => C6 b types AL (fun _ => default) ((AP b types).length - y) y x = B3 b types) ([] : List Ar) (fun _ => rfl) kr kr (fun _ _ => kr) (TH b types hp ht) kr (fun _ => by kernel_rfl) (fun _ => rfl) (fun _ => rfl) (fun x => (Cr (p := BkN) (by simp only [List.forall_mem_cons]; exact ⟨bkN_r Rq, Ny (Im _), Ny (by simp only [List.forall_mem_cons]; exact ⟨(.om _), fun x hx => by cases hx⟩), Ny (by simp only [List.forall_mem_cons]; exact ⟨(.own _ _ _), fun x hx => by cases hx⟩), UG (fun x y hy => by rw [List.mem_singleton.1 hy]; exact (.val _)), fun x hx => by cases hx⟩))) (fun x2 => (Cr (p := TvM) (by simp only [List.forall_mem_cons]; exact ⟨B5 (.ptr _ _), B5 (.ptr _ _), B5 (.ptr _ _), B5 (Fs (EY _)), B5 (Fs (HB _)), B5 (Rl (by simp only [List.forall_mem_cons]; exact ⟨(Fs (Im _)), (Fs (by simp only [List.forall_mem_cons]; exact ⟨(CN KA), fun x hx => by cases hx⟩)), fun x hx => by cases hx⟩)), fun x hx => by cases hx⟩))) (fun _ => by kernel_rfl) ax0 (by rw [<- hF0]; simp only [Cm, Nat.sub_zero, cond_true, cond_false]) (fun l1 W1 M1 X1 x2 j Aq hinv hPX => ?_) (fun l2 W2 M2 X2 x2 j Aq hPX hj hinv => ?_) (fun Aq hinv hF2 => ?_)
  ·have hinv2 : Aq.length <= j := hinv; clear hinv
   refine D2 <| AC ?_
   refine rn ⟨[(2, tP 200002 0), (5, tP 200005 0), (10, tP 200010 0), (11, tP 11 0), (34, .av (.one (.clo 68 2 (BE [.eptr 15 1 (gD (Ag b)) 0 0, .eptr 1 1 (gD [lst 3 AG.c types]) 0 0])))), (36, .av (.agg (Ap.c ((AP b types).getD x2.val default).2)))], [(11, .cells (AD.c ((AP b types).getD x2.val default).1) 59), (100000, .row 9 Aq.length (AY Ar.c Aq) 63), (200002, .cells (Ag b) 42), (200005, .cells [.om 200014] 124), (200010, .cells [.own 100000 9 Aq.length] 60), (200014, .omap false 1 AL.length (kfG Bk AL) (vfG (fun x => [.s x]) AL))]⟩ ?_
   refine rg ⟨[(2, tP 200002 0), (5, tP 200005 0), (10, tP 200010 0), (11, tP 11 0), (12, tP 12 0), (34, .av (.one (.clo 68 2 (BE [.eptr 15 1 (gD (Ag b)) 0 0, .eptr 1 1 (gD [lst 3 AG.c types]) 0 0]))))], [(11, .cells (AD.c ((AP b types).getD x2.val default).1) 59), (12, .cells (Ap.c ((AP b types).getD x2.val default).2) 118), (100000, .row 9 Aq.length (AY Ar.c Aq) 63), (200002, .cells (Ag b) 42), (200005, .cells [.om 200014] 124), (200010, .cells [.own 100000 9 Aq.length] 60), (200014, .omap false 1 AL.length (kfG Bk AL) (vfG (fun x => [.s x]) AL))]⟩ ?_
   exact ⟨_, Cv.trans (KW (⟨[(2, tP 200002 0), (5, tP 200005 0), (10, tP 200010 0), (11, .av (.one (.eptr 7 1 (gD (AD.c ((AP b types).getD x2.val default).1)) 0 0))), (12, tP 12 0), (34, .av (.one (.clo 68 2 (BE [.eptr 15 1 (gD (Ag b)) 0 0, .eptr 1 1 (gD [lst 3 AG.c types]) 0 0]))))], [(12, .cells (Ap.c ((AP b types).getD x2.val default).2) 118), (100000, .row 9 Aq.length (AY Ar.c Aq) 63), (200002, .cells (Ag b) 42), (200005, .cells [.om 200014] 124), (200010, .cells [.own 100000 9 Aq.length] 60), (200014, .omap false 1 AL.length (kfG Bk AL) (vfG (fun x => [.s x]) AL))]⟩) 11 (AD.c ((AP b types).getD x2.val default).1) 59 [200002, 200005, 200010, 200014] 100000 hPX kr (fun _ => ⟨_, rfl⟩) kr kr kr) (Cv.trans (KW (⟨[(2, tP 200002 0), (5, tP 200005 0), (10, tP 200010 0), (11, .av (.one (.eptr 7 1 (gD (AD.c ((AP b types).getD x2.val default).1)) 0 0))), (12, .av (.one (.eptr 7 1 (gD (Ap.c ((AP b types).getD x2.val default).2)) 0 0))), (34, .av (.one (.clo 68 2 (BE [.eptr 15 1 (gD (Ag b)) 0 0, .eptr 1 1 (gD [lst 3 AG.c types]) 0 0]))))], [(100000, .row 9 Aq.length (AY Ar.c Aq) 63), (200002, .cells (Ag b) 42), (200005, .cells [.om 200014] 124), (200010, .cells [.own 100000 9 Aq.length] 60), (200014, .omap false 1 AL.length (kfG Bk AL) (vfG (fun x => [.s x]) AL))]⟩) 12 (Ap.c ((AP b types).getD x2.val default).2) 118 [200002, 200005, 200010, 200014] 100000 hPX kr (fun _ => ⟨_, rfl⟩) kr kr kr) (Cv.refl _)), rfl, rfl⟩
  ·have hinv2 : Aq.length <= j := hinv; clear hinv
   obtain ⟨Xb2, hXb2⟩ : ∃ Xb, C6 b types AL (fun _ => default) ((AP b types).length - x2.val) x2.val Aq = Xb := ⟨_, rfl⟩
   have hF2 := hXb2
   rw [show (AP b types).length - x2.val = ((AP b types).length - (x2.val + 1)) + 1 by have := x2.isLt; omega] at hF2
   have hpe := QN (b := b) ht x2.val
   refine D2 <| Af <| AC ?_
   refine P3 UF Dz [] [(47, ((Cw Au AL (AR.mk ((AP b types).getD x2.val default).1.Ref ((AP b types).getD x2.val default).2.Name)), (CG Au AL (AR.mk ((AP b types).getD x2.val default).1.Ref ((AP b types).getD x2.val default).2.Name))))] [] [2, 5, 10, 11, 12, 13, 34] [13, 100000, 200002, 200005, 200010, 200014] [N3 Try.prog eqE 25 AL.length (kfG Bk AL) (Bk (AR.mk ((AP b types).getD x2.val default).1.Ref ((AP b types).getD x2.val default).2.Name)) (Cw Au AL (AR.mk ((AP b types).getD x2.val default).1.Ref ((AP b types).getD x2.val default).2.Name)) (CG Au AL (AR.mk ((AP b types).getD x2.val default).1.Ref ((AP b types).getD x2.val default).2.Name))] ⟨[(2, tP 200002 0), (5, tP 200005 0), (10, tP 200010 0), (11, .av (.one (.eptr 7 1 (gD (AD.c ((AP b types).getD x2.val default).1)) 0 0))), (12, .av (.one (.eptr 7 1 (gD (Ap.c ((AP b types).getD x2.val default).2)) 0 0))), (13, tP 13 0), (34, .av (.one (.clo 68 2 (BE [.eptr 15 1 (gD (Ag b)) 0 0, .eptr 1 1 (gD [lst 3 AG.c types]) 0 0]))))], [(13, .cells [.i ((AP b types).getD x2.val default).1.Id, .s ((AP b types).getD x2.val default).2.Name, .i 1, .s (bif Cw Au AL (AR.mk ((AP b types).getD x2.val default).1.Ref ((AP b types).getD x2.val default).2.Name) then (AL.getD (CG Au AL (AR.mk ((AP b types).getD x2.val default).1.Ref ((AP b types).getD x2.val default).2.Name)) default).2 else ⟨#[]⟩), .i 1, .i b.Layers, .i 0, vN, .i 0] 63), (100000, .row 9 Aq.length (AY Ar.c Aq) 63), (200002, .cells (Ag b) 42), (200005, .cells [.om 200014] 124), (200010, .cells [.own 100000 9 Aq.length] 60), (200014, .omap false 1 AL.length (kfG Bk AL) (vfG (fun x => [.s x]) AL))]⟩ .nil kr kr (.cons (NZ LZ Nv _ _) .nil) <| AJ ?_
   refine AC <| AC ?_
   refine rn ⟨[(2, tP 200002 0), (5, tP 200005 0), (10, tP 200010 0), (11, .av (.one (.eptr 7 1 (gD (AD.c ((AP b types).getD x2.val default).1)) 0 0))), (12, .av (.one (.eptr 7 1 (gD (Ap.c ((AP b types).getD x2.val default).2)) 0 0))), (13, tP 13 0), (34, .av (.one (.clo 68 2 (BE [.eptr 15 1 (gD (Ag b)) 0 0, .eptr 1 1 (gD [lst 3 AG.c types]) 0 0])))), (53, tB (decide ((((AP b types).getD x2.val default).2.Drill : Int) = 0)))], [(13, .cells [.i ((AP b types).getD x2.val default).1.Id, .s ((AP b types).getD x2.val default).2.Name, .i 1, .s (bif Cw Au AL (AR.mk ((AP b types).getD x2.val default).1.Ref ((AP b types).getD x2.val default).2.Name) then (AL.getD (CG Au AL (AR.mk ((AP b types).getD x2.val default).1.Ref ((AP b types).getD x2.val default).2.Name)) default).2 else ⟨#[]⟩), .i 1, .i b.Layers, .i 0, vN, .i 0] 63), (100000, .row 9 Aq.length (AY Ar.c Aq) 63), (200002, .cells (Ag b) 42), (200005, .cells [.om 200014] 124), (200010, .cells [.own 100000 9 Aq.length] 60), (200014, .omap false 1 AL.length (kfG Bk AL) (vfG (fun x => [.s x]) AL))]⟩ ?_
   refine Bm (⟨[(2, tP 200002 0), (5, tP 200005 0), (10, tP 200010 0), (11, .av (.one (.eptr 7 1 (gD (AD.c ((AP b types).getD x2.val default).1)) 0 0))), (12, .av (.one (.eptr 7 1 (gD (Ap.c ((AP b types).getD x2.val default).2)) 0 0))), (13, tP 13 0), (34, .av (.one (.clo 68 2 (BE [.eptr 15 1 (gD (Ag b)) 0 0, .eptr 1 1 (gD [lst 3 AG.c types]) 0 0]))))], [(13, .cells [.i ((AP b types).getD x2.val default).1.Id, .s ((AP b types).getD x2.val default).2.Name, .i 1, .s (bif Cw Au AL (AR.mk ((AP b types).getD x2.val default).1.Ref ((AP b types).getD x2.val default).2.Name) then (AL.getD (CG Au AL (AR.mk ((AP b types).getD x2.val default).1.Ref ((AP b types).getD x2.val default).2.Name)) default).2 else ⟨#[]⟩), .i (bif decide ((((AP b types).getD x2.val default).2.Drill : Int) = 0) then (CL b ((AP b types).getD x2.val default).1) else 1), .i (bif decide ((((AP b types).getD x2.val default).2.Drill : Int) = 0) then (CL b ((AP b types).getD x2.val default).1) else b.Layers), .i 0, vN, .i 0] 63), (100000, .row 9 Aq.length (AY Ar.c Aq) 63), (200002, .cells (Ag b) 42), (200005, .cells [.om 200014] 124), (200010, .cells [.own 100000 9 Aq.length] 60), (200014, .omap false 1 AL.length (kfG Bk AL) (vfG (fun x => [.s x]) AL))]⟩) ?_ ?_
   ·refine Ae _ rfl (fun h1 => ?_) (fun h1 => ?_)
    ·have g1 := oT h1
     refine dw [] [(56, Hi b ((AP b types).getD x2.val default).1), (59, Hi b ((AP b types).getD x2.val default).1)] [Al (Hi b ((AP b types).getD x2.val default).1).2.1, Al (Hi b ((AP b types).getD x2.val default).1).2.1] ⟨[(2, tP 200002 0), (5, tP 200005 0), (10, tP 200010 0), (11, .av (.one (.eptr 7 1 (gD (AD.c ((AP b types).getD x2.val default).1)) 0 0))), (12, .av (.one (.eptr 7 1 (gD (Ap.c ((AP b types).getD x2.val default).2)) 0 0))), (13, tP 13 0), (34, .av (.one (.clo 68 2 (BE [.eptr 15 1 (gD (Ag b)) 0 0, .eptr 1 1 (gD [lst 3 AG.c types]) 0 0]))))], [(13, .cells [.i ((AP b types).getD x2.val default).1.Id, .s ((AP b types).getD x2.val default).2.Name, .i 1, .s (bif Cw Au AL (AR.mk ((AP b types).getD x2.val default).1.Ref ((AP b types).getD x2.val default).2.Name) then (AL.getD (CG Au AL (AR.mk ((AP b types).getD x2.val default).1.Ref ((AP b types).getD x2.val default).2.Name)) default).2 else ⟨#[]⟩), .i (CL b ((AP b types).getD x2.val default).1), .i (CL b ((AP b types).getD x2.val default).1), .i 0, vN, .i 0] 63), (100000, .row 9 Aq.length (AY Ar.c Aq) 63), (200002, .cells (Ag b) 42), (200005, .cells [.om 200014] 124), (200010, .cells [.own 100000 9 Aq.length] 60), (200014, .omap false 1 AL.length (kfG Bk AL) (vfG (fun x => [.s x]) AL))]⟩ (.cons (Of b ((AP b types).getD x2.val default).1) (.cons (Of b ((AP b types).getD x2.val default).1) .nil)) (.cons rfl (.cons rfl .nil)) <| AJ ?_
     refine A6 ?_
     first | rfl | (simp only [h1, cond_true, cond_false] <;> rfl)
    ·have g1 := oF h1
     refine Ak <| AJ ?_
     refine Cv.trans (BA [2, 5, 10, 11, 12, 13, 34] [13, 100000, 200002, 200005, 200010, 200014] (⟨[(2, tP 200002 0), (5, tP 200005 0), (10, tP 200010 0), (11, .av (.one (.eptr 7 1 (gD (AD.c ((AP b types).getD x2.val default).1)) 0 0))), (12, .av (.one (.eptr 7 1 (gD (Ap.c ((AP b types).getD x2.val default).2)) 0 0))), (13, tP 13 0), (34, .av (.one (.clo 68 2 (BE [.eptr 15 1 (gD (Ag b)) 0 0, .eptr 1 1 (gD [lst 3 AG.c types]) 0 0]))))], [(13, .cells [.i ((AP b types).getD x2.val default).1.Id, .s ((AP b types).getD x2.val default).2.Name, .i 1, .s (bif Cw Au AL (AR.mk ((AP b types).getD x2.val default).1.Ref ((AP b types).getD x2.val default).2.Name) then (AL.getD (CG Au AL (AR.mk ((AP b types).getD x2.val default).1.Ref ((AP b types).getD x2.val default).2.Name)) default).2 else ⟨#[]⟩), .i 1, .i b.Layers, .i 0, vN, .i 0] 63), (100000, .row 9 Aq.length (AY Ar.c Aq) 63), (200002, .cells (Ag b) 42), (200005, .cells [.om 200014] 124), (200010, .cells [.own 100000 9 Aq.length] 60), (200014, .omap false 1 AL.length (kfG Bk AL) (vfG (fun x => [.s x]) AL))]⟩) kr) (A6 ?_)
     first | rfl | (simp only [h1, cond_true, cond_false] <;> rfl)
   refine AC <| dw [] [(65, Es ((AP b types).getD x2.val default).1), (66, I3 ((AP b types).getD x2.val default).2.Shape (Bs ((AP b types).getD x2.val default).1))] [Al (Es ((AP b types).getD x2.val default).1).2.1, Al (I3 ((AP b types).getD x2.val default).2.Shape (Bs ((AP b types).getD x2.val default).1)).2.1] ⟨[(2, tP 200002 0), (5, tP 200005 0), (10, tP 200010 0), (13, tP 13 0), (34, .av (.one (.clo 68 2 (BE [.eptr 15 1 (gD (Ag b)) 0 0, .eptr 1 1 (gD [lst 3 AG.c types]) 0 0]))))], [(13, .cells [.i ((AP b types).getD x2.val default).1.Id, .s ((AP b types).getD x2.val default).2.Name, .i 1, .s (bif Cw Au AL (AR.mk ((AP b types).getD x2.val default).1.Ref ((AP b types).getD x2.val default).2.Name) then (AL.getD (CG Au AL (AR.mk ((AP b types).getD x2.val default).1.Ref ((AP b types).getD x2.val default).2.Name)) default).2 else ⟨#[]⟩), .i (bif decide ((((AP b types).getD x2.val default).2.Drill : Int) = 0) then (CL b ((AP b types).getD x2.val default).1) else 1), .i (bif decide ((((AP b types).getD x2.val default).2.Drill : Int) = 0) then (CL b ((AP b types).getD x2.val default).1) else b.Layers), .i (CX ((AP b types).getD x2.val default).2.Shape (Bs ((AP b types).getD x2.val default).1)).Kind, lst 7 AH.c (CX ((AP b types).getD x2.val default).2.Shape (Bs ((AP b types).getD x2.val default).1)).Edges, .i (CX ((AP b types).getD x2.val default).2.Shape (Bs ((AP b types).getD x2.val default).1)).R] 63), (100000, .row 9 Aq.length (AY Ar.c Aq) 63), (200002, .cells (Ag b) 42), (200005, .cells [.om 200014] 124), (200010, .cells [.own 100000 9 Aq.length] 60), (200014, .omap false 1 AL.length (kfG Bk AL) (vfG (fun x => [.s x]) AL))]⟩ (.cons (J9 ((AP b types).getD x2.val default).1) (.cons (TW ((AP b types).getD x2.val default).2.Shape (Bs ((AP b types).getD x2.val default).1) au13) .nil)) (.cons rfl (.cons rfl .nil)) <| AJ ?_
   refine rc [] [Aq.length = Aq.length, Aq.length + 1 <= maxLen, (Aq.length + 1) * 104 <= 140737488355328] ⟨[(2, tP 200002 0), (5, tP 200005 0), (10, tP 200010 0), (34, .av (.one (.clo 68 2 (BE [.eptr 15 1 (gD (Ag b)) 0 0, .eptr 1 1 (gD [lst 3 AG.c types]) 0 0]))))], [(71, .row 9 (Aq.length + 1) (fun i_ j_ => if i_ < Aq.length then (AY Ar.c Aq) i_ j_ else (A0 9 1 [.i ((AP b types).getD x2.val default).1.Id, .s ((AP b types).getD x2.val default).2.Name, .i 1, .s (bif Cw Au AL (AR.mk ((AP b types).getD x2.val default).1.Ref ((AP b types).getD x2.val default).2.Name) then (AL.getD (CG Au AL (AR.mk ((AP b types).getD x2.val default).1.Ref ((AP b types).getD x2.val default).2.Name)) default).2 else ⟨#[]⟩), .i (bif decide ((((AP b types).getD x2.val default).2.Drill : Int) = 0) then (CL b ((AP b types).getD x2.val default).1) else 1), .i (bif decide ((((AP b types).getD x2.val default).2.Drill : Int) = 0) then (CL b ((AP b types).getD x2.val default).1) else b.Layers), .i (CX ((AP b types).getD x2.val default).2.Shape (Bs ((AP b types).getD x2.val default).1)).Kind, lst 7 AH.c (CX ((AP b types).getD x2.val default).2.Shape (Bs ((AP b types).getD x2.val default).1)).Edges, .i (CX ((AP b types).getD x2.val default).2.Shape (Bs ((AP b types).getD x2.val default).1)).R]) (i_ - Aq.length) j_) 63), (200002, .cells (Ag b) 42), (200005, .cells [.om 200014] 124), (200010, .cells [.own 71 9 (Aq.length + 1)] 60), (200014, .omap false 1 AL.length (kfG Bk AL) (vfG (fun x => [.s x]) AL))]⟩ .nil (.cons rfl (.cons au3 (.cons au3 .nil))) <| Bq ?_
   refine ⟨_, Cv.trans (BR (⟨[(2, tP 200002 0), (5, tP 200005 0), (10, tP 200010 0), (34, .av (.one (.clo 68 2 (BE [.eptr 15 1 (gD (Ag b)) 0 0, .eptr 1 1 (gD [lst 3 AG.c types]) 0 0]))))], [(71, .row 9 (Aq ++ [Ar.mk ((AP b types).getD x2.val default).1.Id ((AP b types).getD x2.val default).2.Name 1 (bif Cw Au AL (AR.mk ((AP b types).getD x2.val default).1.Ref ((AP b types).getD x2.val default).2.Name) then (AL.getD (CG Au AL (AR.mk ((AP b types).getD x2.val default).1.Ref ((AP b types).getD x2.val default).2.Name)) default).2 else ⟨#[]⟩) (bif decide ((((AP b types).getD x2.val default).2.Drill : Int) = 0) then (CL b ((AP b types).getD x2.val default).1) else 1) (bif decide ((((AP b types).getD x2.val default).2.Drill : Int) = 0) then (CL b ((AP b types).getD x2.val default).1) else b.Layers) (CX ((AP b types).getD x2.val default).2.Shape (Bs ((AP b types).getD x2.val default).1))]).length (AY Ar.c (Aq ++ [Ar.mk ((AP b types).getD x2.val default).1.Id ((AP b types).getD x2.val default).2.Name 1 (bif Cw Au AL (AR.mk ((AP b types).getD x2.val default).1.Ref ((AP b types).getD x2.val default).2.Name) then (AL.getD (CG Au AL (AR.mk ((AP b types).getD x2.val default).1.Ref ((AP b types).getD x2.val default).2.Name)) default).2 else ⟨#[]⟩) (bif decide ((((AP b types).getD x2.val default).2.Drill : Int) = 0) then (CL b ((AP b types).getD x2.val default).1) else 1) (bif decide ((((AP b types).getD x2.val default).2.Drill : Int) = 0) then (CL b ((AP b types).getD x2.val default).1) else b.Layers) (CX ((AP b types).getD x2.val default).2.Shape (Bs ((AP b types).getD x2.val default).1))])) 63), (200002, .cells (Ag b) 42), (200005, .cells [.om 200014] 124), (200010, .cells [.own 71 9 (Aq ++ [Ar.mk ((AP b types).getD x2.val default).1.Id ((AP b types).getD x2.val default).2.Name 1 (bif Cw Au AL (AR.mk ((AP b types).getD x2.val default).1.Ref ((AP b types).getD x2.val default).2.Name) then (AL.getD (CG Au AL (AR.mk ((AP b types).getD x2.val default).1.Ref ((AP b types).getD x2.val default).2.Name)) default).2 else ⟨#[]⟩) (bif decide ((((AP b types).getD x2.val default).2.Drill : Int) = 0) then (CL b ((AP b types).getD x2.val default).1) else 1) (bif decide ((((AP b types).getD x2.val default).2.Drill : Int) = 0) then (CL b ((AP b types).getD x2.val default).1) else b.Layers) (CX ((AP b types).getD x2.val default).2.Shape (Bs ((AP b types).getD x2.val default).1))]).length] 60), (200014, .omap false 1 AL.length (kfG Bk AL) (vfG (fun x => [.s x]) AL))]⟩) lr (.cons ⟨rfl, Aw 63 (BV (BK 9 Ar.c Aq) (A2 (c := Ar.c) (xs := ([Ar.mk ((AP b types).getD x2.val default).1.Id ((AP b types).getD x2.val default).2.Name 1 (bif Cw Au AL (AR.mk ((AP b types).getD x2.val default).1.Ref ((AP b types).getD x2.val default).2.Name) then (AL.getD (CG Au AL (AR.mk ((AP b types).getD x2.val default).1.Ref ((AP b types).getD x2.val default).2.Name)) default).2 else ⟨#[]⟩) (bif decide ((((AP b types).getD x2.val default).2.Drill : Int) = 0) then (CL b ((AP b types).getD x2.val default).1) else 1) (bif decide ((((AP b types).getD x2.val default).2.Drill : Int) = 0) then (CL b ((AP b types).getD x2.val default).1) else b.Layers) (CX ((AP b types).getD x2.val default).2.Shape (Bs ((AP b types).getD x2.val default).1))] : List Ar)) rfl kr))⟩ (.cons ⟨rfl, .refl _⟩ (.cons ⟨rfl, .refl _⟩ (.cons ⟨rfl, .cells _ (.cons (.own _ _ au2) .nil)⟩ lr))))) (Cv.trans (Be (⟨[(2, tP 200002 0), (5, tP 200005 0), (10, tP 200010 0), (34, .av (.one (.clo 68 2 (BE [.eptr 15 1 (gD (Ag b)) 0 0, .eptr 1 1 (gD [lst 3 AG.c types]) 0 0]))))], [(100000, .row 9 (Aq ++ [Ar.mk ((AP b types).getD x2.val default).1.Id ((AP b types).getD x2.val default).2.Name 1 (bif Cw Au AL (AR.mk ((AP b types).getD x2.val default).1.Ref ((AP b types).getD x2.val default).2.Name) then (AL.getD (CG Au AL (AR.mk ((AP b types).getD x2.val default).1.Ref ((AP b types).getD x2.val default).2.Name)) default).2 else ⟨#[]⟩) (bif decide ((((AP b types).getD x2.val default).2.Drill : Int) = 0) then (CL b ((AP b types).getD x2.val default).1) else 1) (bif decide ((((AP b types).getD x2.val default).2.Drill : Int) = 0) then (CL b ((AP b types).getD x2.val default).1) else b.Layers) (CX ((AP b types).getD x2.val default).2.Shape (Bs ((AP b types).getD x2.val default).1))]).length (AY Ar.c (Aq ++ [Ar.mk ((AP b types).getD x2.val default).1.Id ((AP b types).getD x2.val default).2.Name 1 (bif Cw Au AL (AR.mk ((AP b types).getD x2.val default).1.Ref ((AP b types).getD x2.val default).2.Name) then (AL.getD (CG Au AL (AR.mk ((AP b types).getD x2.val default).1.Ref ((AP b types).getD x2.val default).2.Name)) default).2 else ⟨#[]⟩) (bif decide ((((AP b types).getD x2.val default).2.Drill : Int) = 0) then (CL b ((AP b types).getD x2.val default).1) else 1) (bif decide ((((AP b types).getD x2.val default).2.Drill : Int) = 0) then (CL b ((AP b types).getD x2.val default).1) else b.Layers) (CX ((AP b types).getD x2.val default).2.Shape (Bs ((AP b types).getD x2.val default).1))])) 63), (200002, .cells (Ag b) 42), (200005, .cells [.om 200014] 124), (200010, .cells [.own 100000 9 (Aq ++ [Ar.mk ((AP b types).getD x2.val default).1.Id ((AP b types).getD x2.val default).2.Name 1 (bif Cw Au AL (AR.mk ((AP b types).getD x2.val default).1.Ref ((AP b types).getD x2.val default).2.Name) then (AL.getD (CG Au AL (AR.mk ((AP b types).getD x2.val default).1.Ref ((AP b types).getD x2.val default).2.Name)) default).2 else ⟨#[]⟩) (bif decide ((((AP b types).getD x2.val default).2.Drill : Int) = 0) then (CL b ((AP b types).getD x2.val default).1) else 1) (bif decide ((((AP b types).getD x2.val default).2.Drill : Int) = 0) then (CL b ((AP b types).getD x2.val default).1) else b.Layers) (CX ((AP b types).getD x2.val default).2.Shape (Bs ((AP b types).getD x2.val default).1))]).length] 60), (200014, .omap false 1 AL.length (kfG Bk AL) (vfG (fun x => [.s x]) AL))]⟩) 71 100000 (K := [299999, 200002, 200005, 200010, 200014]) hPX rfl rfl kr kr) (Cv.refl _)), rfl, (Aq ++ [Ar.mk ((AP b types).getD x2.val default).1.Id ((AP b types).getD x2.val default).2.Name 1 (bif Cw Au AL (AR.mk ((AP b types).getD x2.val default).1.Ref ((AP b types).getD x2.val default).2.Name) then (AL.getD (CG Au AL (AR.mk ((AP b types).getD x2.val default).1.Ref ((AP b types).getD x2.val default).2.Name)) default).2 else ⟨#[]⟩) (bif decide ((((AP b types).getD x2.val default).2.Drill : Int) = 0) then (CL b ((AP b types).getD x2.val default).1) else 1) (bif decide ((((AP b types).getD x2.val default).2.Drill : Int) = 0) then (CL b ((AP b types).getD x2.val default).1) else b.Layers) (CX ((AP b types).getD x2.val default).2.Shape (Bs ((AP b types).getD x2.val default).1))]), ax0, fun hk hF => ?_, fun _ _ h => h⟩
   have e0 : C6 b types AL (fun _ => default) ((AP b types).length - (x2.val + 1)) (x2.val + 1) (Aq ++ [Ar.mk ((AP b types).getD x2.val default).1.Id ((AP b types).getD x2.val default).2.Name 1 (bif Cw Au AL (AR.mk ((AP b types).getD x2.val default).1.Ref ((AP b types).getD x2.val default).2.Name) then (AL.getD (CG Au AL (AR.mk ((AP b types).getD x2.val default).1.Ref ((AP b types).getD x2.val default).2.Name)) default).2 else ⟨#[]⟩) (bif decide ((((AP b types).getD x2.val default).2.Drill : Int) = 0) then (CL b ((AP b types).getD x2.val default).1) else 1) (bif decide ((((AP b types).getD x2.val default).2.Drill : Int) = 0) then (CL b ((AP b types).getD x2.val default).1) else b.Layers) (CX ((AP b types).getD x2.val default).2.Shape (Bs ((AP b types).getD x2.val default).1))]) = Xb2 := by
    rw [<- hF2]
    first | (simp only [C6, cond_true, cond_false] <;> rfl)
   subst hk
   change C6 b types AL (fun _ => default) ((AP b types).length - x2.val) x2.val Aq = B3 b types at hF
   show C6 b types AL (fun _ => default) ((AP b types).length - (x2.val + 1)) (x2.val + 1) (Aq ++ [Ar.mk ((AP b types).getD x2.val default).1.Id ((AP b types).getD x2.val default).2.Name 1 (bif Cw Au AL (AR.mk ((AP b types).getD x2.val default).1.Ref ((AP b types).getD x2.val default).2.Name) then (AL.getD (CG Au AL (AR.mk ((AP b types).getD x2.val default).1.Ref ((AP b types).getD x2.val default).2.Name)) default).2 else ⟨#[]⟩) (bif decide ((((AP b types).getD x2.val default).2.Drill : Int) = 0) then (CL b ((AP b types).getD x2.val default).1) else 1) (bif decide ((((AP b types).getD x2.val default).2.Drill : Int) = 0) then (CL b ((AP b types).getD x2.val default).1) else b.Layers) (CX ((AP b types).getD x2.val default).2.Shape (Bs ((AP b types).getD x2.val default).1))]) = B3 b types
   exact e0.trans (hXb2.symm.trans hF)
  ·have hinv2 : Aq.length <= (AP b types).length := hinv; clear hinv
   change C6 b types AL (fun _ => default) ((AP b types).length - (AP b types).length) (AP b types).length Aq = B3 b types at hF2
   rw [Nat.sub_self] at hF2
   refine Bq <| AJ <| AC ?_
   refine rn ⟨[(4, tO (.own 100000 9 Aq.length))], [(100000, .row 9 Aq.length (AY Ar.c Aq) 63)]⟩ <| Aj ?_
   exact ⟨_, Cv.refl _, .inl rfl, tO (.own 100000 9 Aq.length), by kernel_rfl, frE (c := Ar.c) (xs := Aq) (by rw [<- hF2]; first | (simp only [C6, cond_true, cond_false] <;> rfl)) kr⟩
end
section
open Go.RowKit
theorem Hg {types : List AG} (h : B1 types) (name : ByteArray) : ((B8 types name).1.Pads.length : Int) <= 1000000 := by rw [Fq]; exact GV h name
def FX (b : AF) (v : List (AR × ByteArray)) (x : AD × Ap) : Ar := Ar.mk x.1.Id x.2.Name 1 (bif Cw Au v (AR.mk x.1.Ref x.2.Name) then (v.getD (CG Au v (AR.mk x.1.Ref x.2.Name)) default).2 else ⟨#[]⟩) (bif decide (x.2.Drill = 0) then CL b x.1 else 1) (bif decide (x.2.Drill = 0) then CL b x.1 else b.Layers) (CX x.2.Shape (Bs x.1))
def Rs (v : List (AR × ByteArray)) (n : Ad) : List (AR × ByteArray) := n.Pins.foldl (fun v p => E6 Au v p n.Name) v
def Hb (b : AF) : List (AR × ByteArray) := b.Nets.reverse.foldl Rs []
theorem Kk (b : AF) (types : List AG) : B3 b types = (AP b types).map (FX b (Hb b)) := by
 have h2 : ∀ v K0, C6 b types v K0 (AP b types).length 0 [] = (AP b types).map (FX b v) := fun v K0 => by
  have := SG (AP b types) (fun acc x => acc ++ [FX b v x]) (C6 b types v K0) id (fun x acc => by rw [C6]; rfl) (fun m x acc hx => by rw [C6]; rfl) (AP b types).length 0 [] (by omega)
  rw [this, List.drop_zero, Iu, List.nil_append]; rfl
 have hrev : ∀ x, x < b.Nets.reverse.length -> b.Nets.getD (b.Nets.length - 1 - x) default = b.Nets.reverse.getD x default := fun x hx => by
  rw [List.length_reverse] at hx
  rw [List.getD_eq_getElem?_getD, List.getD_eq_getElem?_getD, List.getElem?_reverse hx]
 unfold B3
 have := SG b.Nets.reverse Rs (Cm b types) (fun v => (AP b types).map (FX b v)) (fun x acc => by rw [Cm]; exact h2 _ _) (fun m x acc hx => by
  rw [Cm, hrev x hx]
  have h1 := MS (b.Nets.reverse.getD x default).Pins (fun v p => E6 Au v p (b.Nets.reverse.getD x default).Name) (Ff b types acc x (Cm b types m (x + 1))) (fun v _ => Cm b types m (x + 1) v) (fun m v k => by rw [Ff, hrev x hx, Int.toNat_natCast]) (b.Nets.reverse.getD x default).Pins.length 0 ((((b.Nets.reverse.getD x default).Pins.length : Int) - 0).toNat + 1) acc rfl (Nat.zero_le _) (by omega)
  rw [List.drop_zero] at h1
  exact h1) b.Nets.length 0 [] (by rw [List.length_reverse]; omega)
 rw [this, List.drop_zero]; rfl
theorem Q2 (b : AF) (types : List AG) : (B3 b types).length = (AP b types).length := by rw [Kk, List.length_map]
def H0 (b : AF) (types : (List AG)) : FuncId × List Av × Ef := (14, [.agg (Ag b), .one (lst 3 AG.c types)], .val [] (.av (.one (lst 9 Ar.c (B3 b types)))))
theorem Pa (b : AF) (types : (List AG)) (hn : (b.Nets.length : Int) <= 1000000) (hp : b.Parts.length < 20) (ht : B1 types) (hm : ((AP b types).length : Int) <= 20000000) (hq : ∀ n ∈ b.Nets, (n.Pins.length : Int) <= 1000000) : A1 Try.prog (H0 b types).1 (H0 b types).2.1 (H0 b types).2.2 := Aa (fun _ _ => kr) fun _ => Jz (qPads b types hn hp ht hm hq)
def Z0l : Blk := .cells [.s (⟨#[]⟩), .i 0, vN, .i 0, .i 0, .i 0, .i 0] 118
def Z0m (t : AG) (pad : ByteArray) : Ap := t.Pads.getD (EW t.Pads pad).toNat default
def Z0n (t : AG) (pad : ByteArray) : Blk := .cells [.s (Z0m t pad).Name, .i (Z0m t pad).Shape.Kind, .own 23 7 (Z0m t pad).Shape.Edges.length, .i (Z0m t pad).Shape.R, .i (Z0m t pad).At.X, .i (Z0m t pad).At.Y, .i (Z0m t pad).Drill] 118
def Z0o (t : AG) (pad : ByteArray) : Blk := .row 7 (Z0m t pad).Shape.Edges.length (AY AH.c (Z0m t pad).Shape.Edges) 133
def D4 (t : AG) (pad : ByteArray) : (Ap × Bool) := bif decide (((EW t.Pads pad) : Int) < 0) then (Ap.mk (⟨#[]⟩) (AQ.mk 0 [] 0) (AE.mk 0 0) 0, false) else (Ap.mk (Z0m t pad).Name (AQ.mk (Z0m t pad).Shape.Kind (Z0m t pad).Shape.Edges (Z0m t pad).Shape.R) (Z0m t pad).At (Z0m t pad).Drill, true)
def Ll (t : AG) (pad : ByteArray) : FuncId × List Av × Ef := (32, [.agg (AG.c t), .one (.s pad)], .val [] (.tup [.agg (Ap.c (D4 t pad).1), .one (.b (D4 t pad).2)]))
theorem pFind (t : AG) (pad : ByteArray) (h0 : (t.Pads.length : Int) <= 1000000) (ha : ∀ k, ((t.Pads.getD k default).Shape.Edges.length : Int) <= 1000000) : Bo Try.prog 32 (Ll t pad).2.1 (.tup [.agg (Ap.c (D4 t pad).1), .one (.b (D4 t pad).2)]) := by
 refine AX Try.func32 rfl kr kr fun W0 M0 => ?_
 have ha1 := ha (EW t.Pads pad).toNat
 refine AC <| rn ⟨[(2, tP 2 0), (3, tP 3 0), (4, tP 4 0)], [(2, .cells (AG.c t) 114), (3, .cells [.s pad] 9), (4, Z0l)]⟩ <| AC ?_
 refine rc [(11, (62, [.one (lst 7 Ap.c t.Pads), .one (.clo 63 1 (BE [.ptr 3 0]))], rdI [3] [.cells [.s pad] 9] (tI (EW t.Pads pad))))] [Al [.one (lst 7 Ap.c t.Pads), .one (.clo 63 1 (BE [.ptr 3 0]))], Me [.cells [.s pad] 9]] ⟨[(2, tP 2 0), (4, tP 4 0), (6, tI (EW t.Pads pad))], [(2, .cells (AG.c t) 114), (4, Z0l)]⟩ (.cons (I1 (fun _ _ => kr) kr kr (Lw (pixPd t.Pads pad au13) (.cons (AvE.refl _) (.cons (.one (.clo 63 1 _ _ (GQ kr))) .nil)))) .nil) (.cons rfl (.cons rfl .nil)) <| AJ ?_
 refine AC <| AC ?_
 refine rn ⟨[(2, tP 2 0), (4, tP 4 0), (6, tI (EW t.Pads pad)), (13, tB (decide (((EW t.Pads pad) : Int) < 0)))], [(2, .cells (AG.c t) 114), (4, Z0l)]⟩ ?_
 refine Ae _ rfl (fun h1 => ?_) (fun h1 => ?_)
 ·have g1 := oT h1
  refine AC <| rn ⟨[(4, tP 4 0), (5, tB false)], [(4, Z0l)]⟩ ?_
  refine Aj <| BO ?_
  exact ⟨_, Cv.refl _, .inl rfl, .tup [.agg [.s (⟨#[]⟩), .i 0, vN, .i 0, .i 0, .i 0, .i 0], .one (.b false)], by kernel_rfl, DG (y := .tup [.agg [.s (⟨#[]⟩), .i 0, lst 7 AH.c [], .i 0, .i 0, .i 0, .i 0], .one (.b false)]) (.tup (.cons (.agg (rr (rr (.cons (A8 7 AH.c) (rr (rr (rr (rr .nil)))))))) (.cons (AvE.refl _) .nil))) (by first | (simp only [D4, h1, cond_true, cond_false] <;> rfl))⟩
 ·have g1 := oF h1
  refine Ak <| AJ <| AC ?_
  refine rc [] [0 <= (EW t.Pads pad : Int) /\ (EW t.Pads pad : Int) < ((t.Pads.length : Nat) : Int)] ⟨[(4, tP 4 0), (7, tP 7 0)], [(4, Z0l), (7, .cells (Ap.c (Z0m t pad)) 118)]⟩ .nil (.cons (by first | exact Uz (by assumption) | omega) .nil) <| AJ <| AC ?_
  refine rc [(23, FF (Z0m t pad).Shape.Edges)] [Al (FF (Z0m t pad).Shape.Edges).2.1] ⟨[(4, tP 4 0), (7, tP 7 0)], [(4, Z0l), (7, Z0n t pad), (23, Z0o t pad)]⟩ (.cons (J7 (Z0m t pad).Shape.Edges au13) .nil) (.cons rfl .nil) <| AJ <| AC ?_
  refine rn ⟨[(4, tP 4 0), (5, tB true)], [(4, Z0n t pad), (23, Z0o t pad)]⟩ <| Aj ?_
  exact ⟨_, Cv.trans (Cu (⟨[(4, tP 4 0), (5, tB true)], [(4, .cells [.s (Z0m t pad).Name, .i (Z0m t pad).Shape.Kind, lst 7 AH.c (Z0m t pad).Shape.Edges, .i (Z0m t pad).Shape.R, .i (Z0m t pad).At.X, .i (Z0m t pad).At.Y, .i (Z0m t pad).Drill] 118)]⟩) 23 7 (Z0m t pad).Shape.Edges.length (AY AH.c (Z0m t pad).Shape.Edges) 133 (K := []) (fun k x h => by cases h) kr kr (.cons ⟨rfl, rfl⟩ .nil) kr) (Cv.refl _), .inl rfl, .tup [.agg [.s (Z0m t pad).Name, .i (Z0m t pad).Shape.Kind, lst 7 AH.c (Z0m t pad).Shape.Edges, .i (Z0m t pad).Shape.R, .i (Z0m t pad).At.X, .i (Z0m t pad).At.Y, .i (Z0m t pad).Drill], .one (.b true)], by kernel_rfl, Ao (by first | (simp only [D4, h1, cond_true, cond_false] <;> rfl))⟩
theorem Uo (t : AG) (pad : ByteArray) (h0 : (t.Pads.length : Int) <= 1000000) (ha : ∀ k, ((t.Pads.getD k default).Shape.Edges.length : Int) <= 1000000) : A1 Try.prog (Ll t pad).1 (Ll t pad).2.1 (Ll t pad).2.2 := Aa (fun _ _ => kr) fun _ => pFind t pad h0 ha
theorem JK {types : List AG} (h : B1 types) (name : ByteArray) : ∀ k, (((B8 types name).1.Pads.getD k default).Shape.Edges.length : Int) <= 1000000 := by
 rw [Fq]
 unfold MQ
 cases hf : types.find? (fun t => E5 t name) with
 | none => exact fun k => (by decide : ((0 : Nat) : Int) <= 1000000)
 | some t => exact fun k => J5 (h.2 t (List.mem_of_find?_eq_some hf)) k
def Z0p (types : (List AG)) (b : AF) (p : AR) : AG := (B8 types (b.Parts.getD (DN b.Parts p).toNat default).Type').1
def Z0q (b : AF) (p : AR) : AD := b.Parts.getD (DN b.Parts p).toNat default
def Z0r (b : AF) (p : AR) (types : (List AG)) : AE := AW (Bs (Z0q b p)) (D4 (Z0p types b p) p.Pad).1.At
def FAt (b : AF) (types : (List AG)) (p : AR) : (AE × Int × Bool) := bif decide (((DN b.Parts p) : Int) < 0) then (AE.mk 0 0, 0, false) else (bif !((D4 (Z0p types b p) p.Pad).2) then (AE.mk 0 0, 0, false) else (Z0r b p types, CL b (Z0q b p), true))
def cAt (b : AF) (types : (List AG)) (p : AR) : FuncId × List Av × Ef := (10, [.agg (Ag b), .one (lst 3 AG.c types), .agg (AR.c p)], .val [] (.tup [.agg (AE.c (FAt b types p).1), .one (.i (FAt b types p).2.1), .one (.b (FAt b types p).2.2)]))
theorem au21 {p : Prop} (h : p := by first | (exact JK ht _) | (exact Hg ht _) | with_reducible assumption | omega | decide | (simp only [List.length_cons, List.length_nil, List.length_append]; omega) | assumption) : p := h
theorem au23 {p : Prop} (h : p := by first | exact Uy (by assumption) | omega) : p := h
theorem pAt (b : AF) (types : (List AG)) (p : AR) (hp : (b.Parts.length : Int) <= 1000000) (ht : B1 types) : Bo Try.prog 10 (cAt b types p).2.1 (.tup [.agg (AE.c (FAt b types p).1), .one (.i (FAt b types p).2.1), .one (.b (FAt b types p).2.2)]) := by
 refine AX Try.func10 rfl kr kr fun W0 M0 => ?_
 refine AC <| rn ⟨[(1, tO (lst 3 AG.c types)), (3, tP 3 0), (5, tP 5 0), (6, tP 6 0)], [(3, .cells (Ag b) 42), (5, .cells (AR.c p) 25), (6, .cells [.i 0, .i 0] 52)]⟩ <| AC ?_
 refine rc [(17, (29, [.one (lst 7 AD.c b.Parts), .one (.clo 30 1 (BE [.ptr 5 0]))], rdI [5] [.cells (AR.c p) 25] (tI (DN b.Parts p))))] [Al [.one (lst 7 AD.c b.Parts), .one (.clo 30 1 (BE [.ptr 5 0]))], Me [.cells (AR.c p) 25]] ⟨[(1, tO (lst 3 AG.c types)), (3, tP 3 0), (5, tP 5 0), (6, tP 6 0), (9, tI (DN b.Parts p))], [(3, .cells (Ag b) 42), (5, .cells (AR.c p) 25), (6, .cells [.i 0, .i 0] 52)]⟩ (.cons (I1 (fun _ _ => kr) kr kr (Lw (pixPl b.Parts p au21) (.cons (AvE.refl _) (.cons (.one (.clo 30 1 _ _ (GQ kr))) .nil)))) .nil) (.cons rfl (.cons rfl .nil)) <| AJ ?_
 refine AC <| AC ?_
 refine rn ⟨[(1, tO (lst 3 AG.c types)), (3, tP 3 0), (5, tP 5 0), (6, tP 6 0), (9, tI (DN b.Parts p)), (19, tB (decide (((DN b.Parts p) : Int) < 0)))], [(3, .cells (Ag b) 42), (5, .cells (AR.c p) 25), (6, .cells [.i 0, .i 0] 52)]⟩ ?_
 refine Ae _ rfl (fun h1 => ?_) (fun h1 => ?_)
 ·have g1 := oT h1
  refine AC <| rn ⟨[(6, tP 6 0), (7, tI 0), (8, tB false)], [(6, .cells [.i 0, .i 0] 52)]⟩ ?_
  refine Aj <| BO ?_
  exact ⟨_, Cv.refl _, .inl rfl, .tup [.agg [.i 0, .i 0], .one (.i 0), .one (.b false)], by kernel_rfl, Ao (by first | (simp only [FAt, h1, cond_true, cond_false] <;> rfl))⟩
 ·have g1 := oF h1
  refine Ak <| AJ <| AC ?_
  refine rc [(29, Nx types (b.Parts.getD (DN b.Parts p).toNat default).Type')] [0 <= (DN b.Parts p : Int) /\ (DN b.Parts p : Int) < ((b.Parts.length : Nat) : Int), Al (Nx types (b.Parts.getD (DN b.Parts p).toNat default).Type').2.1] ⟨[(3, tP 3 0), (5, tP 5 0), (6, tP 6 0), (9, tI (DN b.Parts p)), (10, tP 10 0)], [(3, .cells (Ag b) 42), (5, .cells (AR.c p) 25), (6, .cells [.i 0, .i 0] 52), (10, .cells (AG.c (Z0p types b p)) 114)]⟩ (.cons (T9 types (b.Parts.getD (DN b.Parts p).toNat default).Type' au21) .nil) (.cons au23 (.cons rfl .nil)) <| AJ <| AC ?_
  refine rc [(36, Ll (Z0p types b p) p.Pad)] [Al (Ll (Z0p types b p) p.Pad).2.1] ⟨[(3, tP 3 0), (6, tP 6 0), (9, tI (DN b.Parts p)), (12, tP 12 0), (13, tB (D4 (Z0p types b p) p.Pad).2)], [(3, .cells (Ag b) 42), (6, .cells [.i 0, .i 0] 52), (12, .cells (Ap.c (D4 (Z0p types b p) p.Pad).1) 118)]⟩ (.cons (Uo (Z0p types b p) p.Pad au21 au21) .nil) (.cons rfl .nil) <| AJ ?_
  refine AC <| AC ?_
  refine rn ⟨[(3, tP 3 0), (6, tP 6 0), (9, tI (DN b.Parts p)), (12, tP 12 0), (40, tB (!((D4 (Z0p types b p) p.Pad).2)))], [(3, .cells (Ag b) 42), (6, .cells [.i 0, .i 0] 52), (12, .cells (Ap.c (D4 (Z0p types b p) p.Pad).1) 118)]⟩ ?_
  refine Ae _ rfl (fun h2 => ?_) (fun h2 => ?_)
  ·refine AC <| rn ⟨[(6, tP 6 0), (7, tI 0), (8, tB false)], [(6, .cells [.i 0, .i 0] 52)]⟩ ?_
   refine Aj <| BO ?_
   exact ⟨_, Cv.refl _, .inl rfl, .tup [.agg [.i 0, .i 0], .one (.i 0), .one (.b false)], by kernel_rfl, Ao (by first | (simp only [FAt, h1, h2, cond_true, cond_false] <;> rfl))⟩
  ·refine Ak <| AJ <| AC ?_
   refine dw [] [(47, Es (Z0q b p)), (50, Bb (Bs (Z0q b p)) (D4 (Z0p types b p) p.Pad).1.At), (57, Hi b (Z0q b p))] [0 <= (DN b.Parts p : Int) /\ (DN b.Parts p : Int) < ((b.Parts.length : Nat) : Int), Al (Es (Z0q b p)).2.1, Al (Bb (Bs (Z0q b p)) (D4 (Z0p types b p) p.Pad).1.At).2.1, 0 <= (DN b.Parts p : Int) /\ (DN b.Parts p : Int) < ((b.Parts.length : Nat) : Int), Al (Hi b (Z0q b p)).2.1] ⟨[(6, tP 6 0), (7, tI (CL b (Z0q b p))), (8, tB true)], [(6, .cells (AE.c (Z0r b p types)) 52)]⟩ (.cons (J9 (Z0q b p)) (.cons (CV (Bs (Z0q b p)) (D4 (Z0p types b p) p.Pad).1.At) (.cons (Of b (Z0q b p)) .nil))) (.cons au23 (.cons rfl (.cons rfl (.cons au23 (.cons rfl .nil))))) <| AJ <| Aj ?_
   exact ⟨_, Cv.refl _, .inl rfl, .tup [.agg (AE.c (Z0r b p types)), .one (.i (CL b (Z0q b p))), .one (.b true)], by kernel_rfl, Ao (by first | (simp only [FAt, h1, h2, cond_true, cond_false] <;> rfl))⟩
theorem okAt (b : AF) (types : (List AG)) (p : AR) (hp : (b.Parts.length : Int) <= 1000000) (ht : B1 types) : A1 Try.prog (cAt b types p).1 (cAt b types p).2.1 (cAt b types p).2.2 := Aa (fun _ _ => kr) fun _ => pAt b types p hp ht
end
section
open Go.RowKit
def Z0s : Blk := .cells [.s (⟨#[]⟩), vN, vN] 114
def Z0t (types : (List AG)) (k : Int) (name : ByteArray) : Bool := ((types.getD k.toNat default).Name.toList == name.toList)
def DP (types : (List AG)) (name : ByteArray) : Nat -> Int -> (AG × Bool)
 | 0, _ => default
 | n0 + 1, k => bif decide ((k : Int) < (types.length : Int)) then (bif Z0t types k name then (types.getD k.toNat default, true) else ((DP types name n0) (k + 1))) else (AG.mk (⟨#[]⟩) [] [], false)
def BJ (types : (List AG)) (name : ByteArray) : (AG × Bool) := DP types name (((types.length : Int) - 0).toNat + 1) 0
def E9 (types : (List AG)) (name : ByteArray) : FuncId × List Av × Ef := (35, [.one (lst 3 AG.c types), .one (.s name)], .val [] (.tup [.agg (AG.c (BJ types name).1), .one (.b (BJ types name).2)]))
theorem Ud (types : (List AG)) (name : ByteArray) (h0 : (types.length : Int) <= 1000000) : Bo Try.prog 35 (E9 types name).2.1 (.tup [.agg (AG.c (BJ types name).1), .one (.b (BJ types name).2)]) := by
 refine AX Try.func35 rfl kr kr fun W0 M0 => ?_
 refine AC <| rn ⟨[(0, tO (lst 3 AG.c types)), (1, tO (.s name)), (4, tP 4 0)], [(4, Z0s)]⟩ ?_
 refine AC <| AC ?_
 refine rn ⟨[(0, tO (lst 3 AG.c types)), (1, tO (.s name)), (4, tP 4 0), (6, tI 0)], [(4, Z0s)]⟩ <| Af ?_
 refine BL (ι := Nat × Int) (fun x => ⟨[(0, tO (lst 3 AG.c types)), (1, tO (.s name)), (4, tP 4 0), (6, tI x.2)], [(4, Z0s)]⟩) (fun x => ((types.length : Int) - x.2).toNat < x.1 /\ (0 <= x.2 /\ 0 <= x.2 /\ (x.2 <= (types.length : Int) \/ x.2 = 0)) /\ DP types name x.1 x.2 = BJ types name) (fun x => x.1) ?_ (((types.length : Int) - 0).toNat + 1, 0) ⟨Nat.lt_succ_self _, ⟨ax0, ax0, ax0⟩, (by simp only [BJ, cond_true, cond_false])⟩
 rintro ⟨n0, k⟩ ⟨hn, hinv, hF⟩
 have hm0 := hn; have hinv0 := hinv; have hF0 := hF; try dsimp only at hm0 hinv0 hF0
 clear hn hinv hF
 cases n0 with
 | zero => exact absurd hm0 (Nat.not_lt_zero _)
 | succ n0 =>
  refine AC <| AC ?_
  refine rn ⟨[(0, tO (lst 3 AG.c types)), (1, tO (.s name)), (4, tP 4 0), (6, tI k), (10, tB (decide ((k : Int) < (types.length : Int))))], [(4, Z0s)]⟩ ?_
  refine Ae _ rfl (fun h1 => ?_) (fun h1 => ?_)
  ·have g1 := oT h1
   refine Ak <| AJ ?_
   refine AC <| Af <| AC ?_
   refine rc [] [0 <= (k : Int) /\ (k : Int) < ((types.length : Nat) : Int)] ⟨[(0, tO (lst 3 AG.c types)), (1, tO (.s name)), (4, tP 4 0), (6, tI k), (19, tB (Z0t types k name))], [(4, Z0s)]⟩ .nil (.cons au0 .nil) <| AJ ?_
   refine Ae _ rfl (fun h2 => ?_) (fun h2 => ?_)
   ·refine AC <| rc [] [0 <= (k : Int) /\ (k : Int) < ((types.length : Nat) : Int)] ⟨[(4, tP 4 0), (5, tB true)], [(4, .cells (AG.c (types.getD k.toNat default)) 114)]⟩ .nil (.cons au0 .nil) <| AJ ?_
    refine Aj <| CD ?_
    refine BO <| BO ?_
    refine CD <| BO ?_
    exact ⟨_, Cv.refl _, .inl rfl, .tup [.agg (AG.c (types.getD k.toNat default)), .one (.b true)], by kernel_rfl, Ao (by rw [<- hF0]; first | (simp only [DP, h1, h2, cond_true, cond_false] <;> rfl))⟩
   ·refine Ak <| Bq <| AJ ?_
    refine rg ⟨[(0, tO (lst 3 AG.c types)), (1, tO (.s name)), (4, tP 4 0), (6, tI (W64 (k + 1)))], [(4, Z0s)]⟩ ?_
    (try rw [(show W64 (k + 1) = k + 1 from BP (by omega) (by omega))])
    refine AJ ?_
    refine ⟨(n0, k + 1), ⟨?_, ?_, (by rw [<- hF0]; simp only [DP, h1, h2, cond_true, cond_false])⟩, Nat.lt_succ_self _, A6 kr⟩
    ·show ((types.length : Int) - (k + 1)).toNat < n0; omega
    ·exact ⟨ax0, ax0, ax0⟩
  ·have g1 := oF h1
   refine BZ <| BI ?_
   refine BI <| Ba ?_
   refine AJ <| AC ?_
   refine rn ⟨[(4, tP 4 0), (5, tB false)], [(4, Z0s)]⟩ <| Aj ?_
   exact ⟨_, Cv.refl _, .inl rfl, .tup [.agg [.s (⟨#[]⟩), vN, vN], .one (.b false)], by kernel_rfl, DG (y := .tup [.agg [.s (⟨#[]⟩), lst 7 Ap.c [], lst 2 As.c []], .one (.b false)]) (.tup (.cons (.agg (rr (.cons (A8 7 Ap.c) (.cons (A8 2 As.c) .nil)))) (.cons (AvE.refl _) .nil))) (by rw [<- hF0]; first | (simp only [DP, h1, cond_true, cond_false] <;> rfl))⟩
theorem Jc (types : (List AG)) (name : ByteArray) (h0 : (types.length : Int) <= 1000000) : A1 Try.prog (E9 types name).1 (E9 types name).2.1 (E9 types name).2.2 := Aa (fun _ _ => kr) fun _ => Ud types name h0
def Z0u (t : AG) (k : Int) (name : ByteArray) : Bool := ((t.Pads.getD k.toNat default).Name.toList == name.toList)
def DQ (t : AG) (name : ByteArray) : Nat -> Int -> Int
 | 0, _ => default
 | n0 + 1, k => bif decide ((k : Int) < (t.Pads.length : Int)) then (bif Z0u t k name then k else ((DQ t name n0) (k + 1))) else (-1)
def Cd (t : AG) (name : ByteArray) : Int := DQ t name (((t.Pads.length : Int) - 0).toNat + 1) 0
def GG (t : AG) (name : ByteArray) : FuncId × List Av × Ef := (66, [.agg (AG.c t), .one (.s name)], .val [] (.av (.one (.i (Cd t name)))))
theorem RQ (t : AG) (name : ByteArray) (h0 : (t.Pads.length : Int) <= 1000000) : Bo Try.prog 66 (GG t name).2.1 (tO (.i (Cd t name))) := by
 refine AX Try.func66 rfl kr kr fun W0 M0 => ?_
 refine AC <| rn ⟨[(1, tO (.s name)), (2, tP 2 0)], [(2, .cells (AG.c t) 114)]⟩ ?_
 refine AC <| AC ?_
 refine rn ⟨[(1, tO (.s name)), (2, tP 2 0), (5, tI 0)], [(2, .cells (AG.c t) 114)]⟩ <| Af ?_
 refine BL (ι := Nat × Int) (fun x => ⟨[(1, tO (.s name)), (2, tP 2 0), (5, tI x.2)], [(2, .cells (AG.c t) 114)]⟩) (fun x => ((t.Pads.length : Int) - x.2).toNat < x.1 /\ (0 <= x.2 /\ 0 <= x.2 /\ (x.2 <= (t.Pads.length : Int) \/ x.2 = 0)) /\ DQ t name x.1 x.2 = Cd t name) (fun x => x.1) ?_ (((t.Pads.length : Int) - 0).toNat + 1, 0) ⟨Nat.lt_succ_self _, ⟨ax0, ax0, ax0⟩, (by simp only [Cd, cond_true, cond_false])⟩
 rintro ⟨n0, k⟩ ⟨hn, hinv, hF⟩
 have hm0 := hn; have hinv0 := hinv; have hF0 := hF; try dsimp only at hm0 hinv0 hF0
 clear hn hinv hF
 cases n0 with
 | zero => exact absurd hm0 (Nat.not_lt_zero _)
 | succ n0 =>
  refine AC <| AC ?_
  refine rn ⟨[(1, tO (.s name)), (2, tP 2 0), (5, tI k), (10, tB (decide ((k : Int) < (t.Pads.length : Int))))], [(2, .cells (AG.c t) 114)]⟩ ?_
  refine Ae _ rfl (fun h1 => ?_) (fun h1 => ?_)
  ·have g1 := oT h1
   refine Ak <| AJ ?_
   refine AC <| Af <| AC ?_
   refine rc [] [0 <= (k : Int) /\ (k : Int) < ((t.Pads.length : Nat) : Int)] ⟨[(1, tO (.s name)), (2, tP 2 0), (5, tI k), (20, tB (Z0u t k name))], [(2, .cells (AG.c t) 114)]⟩ .nil (.cons au0 .nil) <| AJ ?_
   refine Ae _ rfl (fun h2 => ?_) (fun h2 => ?_)
   ·refine AC <| rn ⟨[(4, tI k)], []⟩ ?_
    refine Aj <| CD ?_
    refine BO <| BO ?_
    refine CD <| BO ?_
    exact ⟨_, Cv.refl _, .inl rfl, tO (.i k), by kernel_rfl, Ao (by rw [<- hF0]; first | (simp only [DQ, h1, h2, cond_true, cond_false] <;> rfl))⟩
   ·refine Ak <| Bq <| AJ ?_
    refine rg ⟨[(1, tO (.s name)), (2, tP 2 0), (5, tI (W64 (k + 1)))], [(2, .cells (AG.c t) 114)]⟩ ?_
    (try rw [(show W64 (k + 1) = k + 1 from BP (by omega) (by omega))])
    refine AJ ?_
    refine ⟨(n0, k + 1), ⟨?_, ?_, (by rw [<- hF0]; simp only [DQ, h1, h2, cond_true, cond_false])⟩, Nat.lt_succ_self _, A6 kr⟩
    ·show ((t.Pads.length : Int) - (k + 1)).toNat < n0; omega
    ·exact ⟨ax0, ax0, ax0⟩
  ·have g1 := oF h1
   refine BZ <| BI ?_
   refine BI <| Ba ?_
   refine AJ <| AC ?_
   refine rn ⟨[(4, tI (-1))], []⟩ <| Aj ?_
   exact ⟨_, Cv.refl _, .inl rfl, tO (.i (-1)), by kernel_rfl, Ao (by rw [<- hF0]; first | (simp only [DQ, h1, cond_true, cond_false] <;> rfl))⟩
theorem QU (t : AG) (name : ByteArray) (h0 : (t.Pads.length : Int) <= 1000000) : A1 Try.prog (GG t name).1 (GG t name).2.1 (GG t name).2.2 := Aa (fun _ _ => kr) fun _ => RQ t name h0
theorem Sj {p : Prop} [Decidable p] {q : Bool} (h : (bif q then decide p else false) = true) : p := by
 cases q with
 | true => exact oT h
 | false => cases h
theorem Je {α β : Type} [Inhabited α] (f : α -> Bool) (K : α -> β) (D : β) (xs : List α) (g : Nat -> Int -> β) (hg : ∀ m (v : Nat), g (m + 1) v = bif decide ((v : Int) < (xs.length : Int)) then (bif f (xs.getD v default) then K (xs.getD v default) else g m ((v : Int) + 1)) else D) :
  ∀ (k v m : Nat), xs.length - v = k -> v <= xs.length -> k < m -> g m v = match (xs.drop v).find? f with | some x => K x | none => D := by
 intro k
 induction k with
 | zero =>
  intro v m hk hv hm
  obtain ⟨m, rfl⟩ : ∃ k, m = k + 1 := ⟨m - 1, by omega⟩
  rw [hg, decide_eq_false (by omega), cond_false, List.drop_eq_nil_of_le (by omega)]
  rfl
 | succ k ih =>
  intro v m hk hv hm
  obtain ⟨m, rfl⟩ : ∃ k, m = k + 1 := ⟨m - 1, by omega⟩
  have hlt : v < xs.length := by omega
  have e : xs.getD v default = xs[v] := by rw [List.getD_eq_getElem?_getD, List.getElem?_eq_getElem hlt]; rfl
  rw [hg, decide_eq_true (by omega), cond_true, e, List.drop_eq_getElem_cons hlt, List.find?_cons]
  cases f xs[v] with
  | true => rfl
  | false => exact ih (v + 1) m (by omega) (by omega) (by omega)
theorem G4 (t : AG) (name : ByteArray) : Cd t name = ixI (fun p => Hl p name) t.Pads := by
 unfold Cd
 have h := Pq (fun p => Hl p name) t.Pads (DQ t name) (fun m v => by rw [DQ]; unfold Z0u; rw [Int.toNat_natCast]; rfl) t.Pads.length 0 (((t.Pads.length : Int) - 0).toNat + 1) rfl (Nat.zero_le _) (by omega)
 rw [List.drop_zero] at h
 refine h.trans ?_
 unfold ixI
 cases t.Pads.findIdx? (fun p => Hl p name) with
 | none => rfl
 | some i => simp
theorem U0 {t : AG} {c : ByteArray} (h : ¬ Cd t c < 0) : 0 <= Cd t c /\ Cd t c < (t.Pads.length : Int) := by
 rw [G4] at *
 exact Pr h
theorem Sg {a c : ByteArray} (h : (a.toList == c.toList) = true) : a = c := by have := (O5 a c).1 h; cases this; rfl
theorem GO (types : List AG) (name : ByteArray) : BJ types name = B8 types name := by
 rw [Fq]
 unfold BJ MQ
 have h := Je (fun t => E5 t name) (fun t => ((t, true) : AG × Bool)) (⟨⟨#[]⟩, [], []⟩, false) types (DP types name) (fun m v => by rw [DP]; unfold Z0t; rw [Int.toNat_natCast]; rfl) types.length 0 (((types.length : Int) - 0).toNat + 1) rfl (Nat.zero_le _) (by omega)
 rw [List.drop_zero] at h
 refine h.trans ?_
 cases hf : types.find? (fun t => E5 t name) with
 | none => rfl
 | some t =>
  have e : t.Name = name := Sg (List.find?_some (p := fun t => E5 t name) hf)
  subst e
  rfl
theorem LQ {types : List AG} (h : B1 types) (name : ByteArray) : ((BJ types name).1.Pads.length : Int) <= 1000000 := by rw [GO]; exact Hg h name
theorem SB {types : List AG} (h : B1 types) (name : ByteArray) : ∀ k, (((BJ types name).1.Pads.getD k default).Shape.Edges.length : Int) <= 1000000 := by rw [GO]; exact JK h name
theorem TF {b : AF} (h : ∀ n ∈ b.Nets, (n.Pins.length : Int) <= 1000000) (k : Nat) : ((b.Nets.getD k default).Pins.length : Int) <= 1000000 := GY (p := fun n : Ad => (n.Pins.length : Int) <= 1000000) (by decide) h k
def Z0v : Blk := .cells [.s (⟨#[]⟩), .i 0, vN, .i 0, .i 0, .i 0, .i 0] 118
def Z0w (t : AG) (pad : ByteArray) : Ap := t.Pads.getD (Cd t pad).toNat default
def DX (t : AG) (pad : ByteArray) : (Ap × Bool) := bif decide (((Cd t pad) : Int) < 0) then (Ap.mk (⟨#[]⟩) (AQ.mk 0 [] 0) (AE.mk 0 0) 0, false) else (Z0w t pad, true)
def HQ (t : AG) (pad : ByteArray) : FuncId × List Av × Ef := (36, [.agg (AG.c t), .one (.s pad)], .val [] (.tup [.agg (Ap.c (DX t pad).1), .one (.b (DX t pad).2)]))
theorem TP (t : AG) (pad : ByteArray) (h0 : (t.Pads.length : Int) <= 1000000) : Bo Try.prog 36 (HQ t pad).2.1 (.tup [.agg (Ap.c (DX t pad).1), .one (.b (DX t pad).2)]) := by
 refine AX Try.func36 rfl kr kr fun W0 M0 => ?_
 refine AC <| rn ⟨[(1, tO (.s pad)), (2, tP 2 0), (4, tP 4 0)], [(2, .cells (AG.c t) 114), (4, Z0v)]⟩ <| AC ?_
 refine rc [(9, GG t pad)] [Al (GG t pad).2.1] ⟨[(2, tP 2 0), (4, tP 4 0), (6, tI (Cd t pad))], [(2, .cells (AG.c t) 114), (4, Z0v)]⟩ (.cons (QU t pad au6) .nil) (.cons rfl .nil) <| AJ ?_
 refine AC <| AC ?_
 refine rn ⟨[(2, tP 2 0), (4, tP 4 0), (6, tI (Cd t pad)), (11, tB (decide (((Cd t pad) : Int) < 0)))], [(2, .cells (AG.c t) 114), (4, Z0v)]⟩ ?_
 refine Ae _ rfl (fun h1 => ?_) (fun h1 => ?_)
 ·have g1 := oT h1
  refine AC <| rn ⟨[(4, tP 4 0), (5, tB false)], [(4, Z0v)]⟩ ?_
  refine Aj <| BO ?_
  exact ⟨_, Cv.refl _, .inl rfl, .tup [.agg [.s (⟨#[]⟩), .i 0, vN, .i 0, .i 0, .i 0, .i 0], .one (.b false)], by kernel_rfl, DG (y := .tup [.agg [.s (⟨#[]⟩), .i 0, lst 7 AH.c [], .i 0, .i 0, .i 0, .i 0], .one (.b false)]) (.tup (.cons (.agg (rr (rr (.cons (A8 7 AH.c) (rr (rr (rr (rr .nil)))))))) (.cons (AvE.refl _) .nil))) (by first | (simp only [DX, h1, cond_true, cond_false] <;> rfl))⟩
 ·have g1 := oF h1
  refine Ak <| AJ <| AC ?_
  refine rc [] [0 <= (Cd t pad : Int) /\ (Cd t pad : Int) < ((t.Pads.length : Nat) : Int)] ⟨[(4, tP 4 0), (5, tB true)], [(4, .cells (Ap.c (Z0w t pad)) 118)]⟩ .nil (.cons (by first | exact U0 (by assumption) | omega) .nil) <| AJ <| Aj ?_
  exact ⟨_, Cv.refl _, .inl rfl, .tup [.agg (Ap.c (Z0w t pad)), .one (.b true)], by kernel_rfl, Ao (by first | (simp only [DX, h1, cond_true, cond_false] <;> rfl))⟩
theorem Rk (t : AG) (pad : ByteArray) (h0 : (t.Pads.length : Int) <= 1000000) : A1 Try.prog (HQ t pad).1 (HQ t pad).2.1 (HQ t pad).2.2 := Aa (fun _ _ => kr) fun _ => TP t pad h0
def CQ (p : AD) : AO := AO.mk p.At p.Turn p.Under
def EG (p : AD) : FuncId × List Av × Ef := (37, [.agg (AD.c p)], .val [] (.av (.agg (AO.c (CQ p)))))
theorem QQ (p : AD) : Bo Try.prog 37 (EG p).2.1 (.av (.agg (AO.c (CQ p)))) := by
 refine AX Try.func37 rfl kr kr fun W0 M0 => ?_
 refine AC <| rn ⟨[(1, tP 1 0), (2, tP 2 0)], [(1, .cells (AD.c p) 59), (2, .cells [.i 0, .i 0, .i 0, .b false] 66)]⟩ <| AC ?_
 refine rn ⟨[(2, tP 2 0)], [(2, .cells [.i p.At.X, .i p.At.Y, .i p.Turn, .b p.Under] 66)]⟩ <| Aj ?_
 exact ⟨_, Cv.refl _, .inl rfl, .av (.agg [.i p.At.X, .i p.At.Y, .i p.Turn, .b p.Under]), by kernel_rfl, Ao (by rfl)⟩
theorem J8 (p : AD) : A1 Try.prog (EG p).1 (EG p).2.1 (EG p).2.2 := Aa (fun _ _ => kr) fun _ => QQ p
def Z0x (b : AF) (k : Int) (i : Int) : AR := (b.Nets.getD k.toNat default).Pins.getD i.toNat default
def Z0y (b : AF) (k : Int) (i : Int) (p : AR) : Bool := (((Z0x b k i).Ref.toList == p.Ref.toList) && (((Z0x b k i).Pad.toList == p.Pad.toList) && true))
def Dq (b : AF) (p : AR) (k : Int) (K0 : Int -> ByteArray) : Nat -> Int -> ByteArray
 | 0, _ => default
 | n1 + 1, i => bif decide ((i : Int) < ((b.Nets.getD k.toNat default).Pins.length : Int)) then (bif Z0y b k i p then (b.Nets.getD k.toNat default).Name else ((Dq b p k K0 n1) (i + 1))) else (K0 (k + 1))
def Dr (b : AF) (p : AR) : Nat -> Int -> ByteArray
 | 0, _ => default
 | n0 + 1, k => bif decide ((k : Int) < (b.Nets.length : Int)) then (Dq b p k (Dr b p n0) ((((b.Nets.getD k.toNat default).Pins.length : Int) - 0).toNat + 1) 0) else ({ data := #[] } : ByteArray)
def EB (b : AF) (p : AR) : ByteArray := Dr b p (((b.Nets.length : Int) - 0).toNat + 1) 0
def Iz (b : AF) (p : AR) : FuncId × List Av × Ef := (75, [.agg (Ag b), .agg (AR.c p)], .val [] (.av (.one (.s (EB b p)))))
theorem US (b : AF) (p : AR) (hn : (b.Nets.length : Int) <= 1000000) (hq : ∀ n ∈ b.Nets, (n.Pins.length : Int) <= 1000000) : Bo Try.prog 75 (Iz b p).2.1 (tO (.s (EB b p))) := by
 refine AX Try.func75 rfl kr kr fun W0 M0 => ?_
 refine AC <| rn ⟨[(2, tP 2 0), (3, tP 3 0)], [(2, .cells (Ag b) 42), (3, .cells (AR.c p) 25)]⟩ ?_
 refine AC <| AC ?_
 refine rn ⟨[(2, tP 2 0), (3, tP 3 0), (5, tI 0)], [(2, .cells (Ag b) 42), (3, .cells (AR.c p) 25)]⟩ <| Af ?_
 refine BL (ι := Nat × Int) (fun x => ⟨[(2, tP 2 0), (3, tP 3 0), (5, tI x.2)], [(2, .cells (Ag b) 42), (3, .cells (AR.c p) 25)]⟩) (fun x => ((b.Nets.length : Int) - x.2).toNat < x.1 /\ (0 <= x.2 /\ (x.2 <= (b.Nets.length : Int) \/ x.2 = 0)) /\ Dr b p x.1 x.2 = EB b p) (fun x => x.1) ?_ (((b.Nets.length : Int) - 0).toNat + 1, 0) ⟨Nat.lt_succ_self _, ⟨ax0, ax0⟩, (by simp only [EB, cond_true, cond_false])⟩
 rintro ⟨n0, k⟩ ⟨hn, hinv, hF⟩
 have hm0 := hn; have hinv0 := hinv; have hF0 := hF; try dsimp only at hm0 hinv0 hF0
 clear hn hinv hF
 cases n0 with
 | zero => exact absurd hm0 (Nat.not_lt_zero _)
 | succ n0 =>
  refine AC <| AC ?_
  refine rn ⟨[(2, tP 2 0), (3, tP 3 0), (5, tI k), (11, tB (decide ((k : Int) < (b.Nets.length : Int))))], [(2, .cells (Ag b) 42), (3, .cells (AR.c p) 25)]⟩ ?_
  refine Ae _ rfl (fun h1 => ?_) (fun h1 => ?_)
  ·have g1 := oT h1
   refine Ak <| AJ ?_
   refine AC <| Af <| AC ?_
   refine rn ⟨[(2, tP 2 0), (3, tP 3 0), (5, tI k), (6, tI 0)], [(2, .cells (Ag b) 42), (3, .cells (AR.c p) 25)]⟩ <| Af ?_
   refine BL (ι := Nat × Int) (fun x => ⟨[(2, tP 2 0), (3, tP 3 0), (5, tI k), (6, tI x.2)], [(2, .cells (Ag b) 42), (3, .cells (AR.c p) 25)]⟩) (fun x => (((b.Nets.getD k.toNat default).Pins.length : Int) - x.2).toNat < x.1 /\ (0 <= x.2 /\ (x.2 <= ((b.Nets.getD k.toNat default).Pins.length : Int) \/ x.2 = 0)) /\ Dq b p k (Dr b p n0) x.1 x.2 = EB b p) (fun x => x.1) ?_ ((((b.Nets.getD k.toNat default).Pins.length : Int) - 0).toNat + 1, 0) ⟨Nat.lt_succ_self _, ⟨ax0, ax0⟩, (by rw [<- hF0]; simp only [Dr, h1, cond_true, cond_false])⟩
   rintro ⟨n1, i⟩ ⟨hn, hinv, hF⟩
   have hm1 := hn; have hinv1 := hinv; have hF1 := hF; try dsimp only at hm1 hinv1 hF1
   clear hn hinv hF
   cases n1 with
   | zero => exact absurd hm1 (Nat.not_lt_zero _)
   | succ n1 =>
    have hb1 := TF hq k.toNat
    refine AC <| AC ?_
    refine rc [] [0 <= (k : Int) /\ (k : Int) < ((b.Nets.length : Nat) : Int)] ⟨[(2, tP 2 0), (3, tP 3 0), (5, tI k), (6, tI i), (22, tB (decide ((i : Int) < ((b.Nets.getD k.toNat default).Pins.length : Int))))], [(2, .cells (Ag b) 42), (3, .cells (AR.c p) 25)]⟩ .nil (.cons au0 .nil) <| AJ ?_
    refine Ae _ rfl (fun h2 => ?_) (fun h2 => ?_)
    ·have g2 := oT h2
     refine Ak <| AJ ?_
     refine AC <| Af <| AC ?_
     refine dw [] [] [0 <= (k : Int) /\ (k : Int) < ((b.Nets.length : Nat) : Int), 0 <= (i : Int) /\ (i : Int) < (((b.Nets.getD k.toNat default).Pins.length : Nat) : Int)] ⟨[(2, tP 2 0), (3, tP 3 0), (5, tI k), (6, tI i), (35, tB (Z0y b k i p))], [(2, .cells (Ag b) 42), (3, .cells (AR.c p) 25)]⟩ .nil (.cons au0 (.cons au0 .nil)) <| AJ ?_
     refine Ae _ rfl (fun h3 => ?_) (fun h3 => ?_)
     ·refine AC <| rc [] [0 <= (k : Int) /\ (k : Int) < ((b.Nets.length : Nat) : Int)] ⟨[(4, tO (.s (b.Nets.getD k.toNat default).Name))], []⟩ .nil (.cons au0 .nil) <| AJ ?_
      refine Aj <| CD ?_
      refine BO <| BO ?_
      refine CD <| CD ?_
      refine BO <| BO ?_
      refine CD <| BO ?_
      exact ⟨_, Cv.refl _, .inl rfl, tO (.s (b.Nets.getD k.toNat default).Name), by kernel_rfl, Ao (by rw [<- hF1]; first | (simp only [Dq, h2, h3, cond_true, cond_false] <;> rfl))⟩
     ·refine Ak <| Bq <| AJ ?_
      refine rg ⟨[(2, tP 2 0), (3, tP 3 0), (5, tI k), (6, tI (W64 (i + 1)))], [(2, .cells (Ag b) 42), (3, .cells (AR.c p) 25)]⟩ ?_
      (try rw [(show W64 (i + 1) = i + 1 from BP (by omega) au9)])
      refine AJ ?_
      refine ⟨(n1, i + 1), ⟨?_, ?_, (by rw [<- hF1]; simp only [Dq, h2, h3, cond_true, cond_false])⟩, Nat.lt_succ_self _, A6 kr⟩
      ·show (((b.Nets.getD k.toNat default).Pins.length : Int) - (i + 1)).toNat < n1; omega
      ·exact ⟨ax0, ax0⟩
    ·have g2 := oF h2
     refine BZ <| BI ?_
     refine BI <| Ba ?_
     refine Bq <| AJ ?_
     refine rg ⟨[(2, tP 2 0), (3, tP 3 0), (5, tI (W64 (k + 1)))], [(2, .cells (Ag b) 42), (3, .cells (AR.c p) 25)]⟩ ?_
     (try rw [(show W64 (k + 1) = k + 1 from BP (by omega) au9)])
     refine AJ ?_
     refine ⟨(n0, k + 1), ⟨?_, ?_, (by rw [<- hF1]; simp only [Dq, h2, cond_true, cond_false])⟩, Nat.lt_succ_self _, A6 kr⟩
     ·show ((b.Nets.length : Int) - (k + 1)).toNat < n0; omega
     ·exact ⟨ax0, ax0⟩
  ·have g1 := oF h1
   refine BZ <| BI ?_
   refine BI <| Ba ?_
   refine AJ <| AC ?_
   refine rn ⟨[(4, tO (.s ({ data := #[] } : ByteArray)))], []⟩ <| Aj ?_
   exact ⟨_, Cv.refl _, .inl rfl, tO (.s ({ data := #[] } : ByteArray)), by kernel_rfl, Ao (by rw [<- hF0]; first | (simp only [Dr, h1, cond_true, cond_false] <;> rfl))⟩
theorem TU (b : AF) (p : AR) (hn : (b.Nets.length : Int) <= 1000000) (hq : ∀ n ∈ b.Nets, (n.Pins.length : Int) <= 1000000) : A1 Try.prog (Iz b p).1 (Iz b p).2.1 (Iz b p).2.2 := Aa (fun _ _ => kr) fun _ => US b p hn hq
def Ch (b : AF) (p : AD) : Int := bif p.Under then b.Layers else 1
def Fl (b : AF) (p : AD) : FuncId × List Av × Ef := (38, [.agg (Ag b), .agg (AD.c p)], .val [] (.av (.one (.i (Ch b p)))))
theorem S9 (b : AF) (p : AD) : Bo Try.prog 38 (Fl b p).2.1 (tO (.i (Ch b p))) := by
 refine AX Try.func38 rfl kr kr fun W0 M0 => ?_
 refine AC <| rn ⟨[(2, tP 2 0), (3, tP 3 0)], [(2, .cells (Ag b) 42), (3, .cells (AD.c p) 59)]⟩ ?_
 refine AC <| AC ?_
 refine rn ⟨[(2, tP 2 0), (6, tB p.Under)], [(2, .cells (Ag b) 42)]⟩ ?_
 refine Ae p.Under kr (fun h1 => ?_) (fun h1 => ?_)
 ·refine AC <| rn ⟨[(4, tI b.Layers)], []⟩ ?_
  refine Aj <| BO ?_
  exact ⟨_, Cv.refl _, .inl rfl, tO (.i b.Layers), by kernel_rfl, Ao (by first | (simp only [Ch, h1, cond_true, cond_false] <;> rfl))⟩
 ·refine Ak <| AJ <| AC ?_
  refine rn ⟨[(4, tI 1)], []⟩ <| Aj ?_
  exact ⟨_, Cv.refl _, .inl rfl, tO (.i 1), by kernel_rfl, Ao (by first | (simp only [Ch, h1, cond_true, cond_false] <;> rfl))⟩
theorem ND (b : AF) (p : AD) : A1 Try.prog (Fl b p).1 (Fl b p).2.1 (Fl b p).2.2 := Aa (fun _ _ => kr) fun _ => S9 b p
def Z0z : Blk := .cells [.i 0, vN, .i 0] 29
def Z0A : Blk := .row 7 ([] : List AH).length (AY AH.c ([] : List AH)) 133
def Z0B (s : AQ) : Blk := .cells [.i s.Kind, .own 100000 7 ([] : List AH).length, .i s.R] 29
def Z0C (s : AQ) (k : Int) (m : AO) : AH := Fd (s.Edges.getD k.toNat default) m
def Z0D (out_1 : List AH) (s : AQ) (k : Int) (m : AO) : Blk := .row 7 (out_1 ++ [Z0C s k m]).length (AY AH.c (out_1 ++ [Z0C s k m])) 133
def EC (s : AQ) (m : AO) : Nat -> List AH -> Int -> AQ
 | 0, _, _ => default
 | n0 + 1, out_1, k => bif decide ((k : Int) < (s.Edges.length : Int)) then ((EC s m n0) (out_1 ++ [Z0C s k m]) (k + 1)) else (AQ.mk s.Kind out_1 s.R)
def DE (s : AQ) (m : AO) : AQ := EC s m (((s.Edges.length : Int) - 0).toNat + 1) ([] : List AH) 0
def HO (s : AQ) (m : AO) : FuncId × List Av × Ef := (76, [.agg (AQ.c s), .agg (AO.c m)], .val [] (.av (.agg (AQ.c (DE s m)))))
theorem TL (s : AQ) (m : AO) (h0 : (s.Edges.length : Int) <= 1000000) : Bo Try.prog 76 (HO s m).2.1 (.av (.agg (AQ.c (DE s m)))) := by
 refine AX Try.func76 rfl kr kr fun W0 M0 => ?_
 refine AC <| rn ⟨[(2, tP 2 0), (3, tP 3 0), (4, tP 4 0)], [(2, .cells (AQ.c s) 29), (3, .cells (AO.c m) 66), (4, Z0z)]⟩ <| AC ?_
 refine rn ⟨[(2, tP 2 0), (3, tP 3 0), (4, tP 4 0), (5, tP 5 0)], [(2, .cells (AQ.c s) 29), (3, .cells (AO.c m) 66), (4, Z0z), (5, .cells [.i s.Kind, vN, .i s.R] 29)]⟩ ?_
 refine AC <| AC ?_
 refine rn ⟨[(2, tP 2 0), (3, tP 3 0), (4, tP 4 0), (5, tP 5 0), (6, tI 0)], [(2, .cells (AQ.c s) 29), (3, .cells (AO.c m) 66), (4, Z0z), (5, .cells [.i s.Kind, vN, .i s.R] 29)]⟩ <| Af ?_
 refine Bl (Cv.trans (CH (⟨[(2, tP 2 0), (3, tP 3 0), (4, tP 4 0), (5, tP 5 0), (6, tI 0)], [(100000, .row 7 0 (fun _ _ => default) 133), (2, .cells (AQ.c s) 29), (3, .cells (AO.c m) 66), (4, Z0z), (5, .cells [.i s.Kind, .own 100000 7 0, .i s.R] 29)]⟩) 100000 7 (fun _ _ => default) 133 [] [(5, [1])] (K := []) (fun k x h => by cases h) rfl kr kr) (Cv.trans (BR (⟨[(2, tP 2 0), (3, tP 3 0), (4, tP 4 0), (5, tP 5 0), (6, tI 0)], [(100000, Z0A), (2, .cells (AQ.c s) 29), (3, .cells (AO.c m) 66), (4, Z0z), (5, Z0B s)]⟩) lr (.cons ⟨rfl, Aw 133 (CF 7 (fun _ _ => default) AH.c)⟩ (.cons ⟨rfl, .refl _⟩ (.cons ⟨rfl, .refl _⟩ (.cons ⟨rfl, .refl _⟩ (.cons ⟨rfl, .cells _ (rr (.cons (.own _ _ au2) (rr .nil)))⟩ .nil)))))) (Cv.trans (BA [2, 3, 4, 5, 6] [2, 3, 4, 5, 100000] (⟨[(2, tP 2 0), (3, tP 3 0), (4, tP 4 0), (5, tP 5 0), (6, tI 0)], [(2, .cells (AQ.c s) 29), (3, .cells (AO.c m) 66), (4, Z0z), (5, Z0B s), (100000, Z0A)]⟩) kr) (Cv.refl _)))) ?_
 refine BL (ι := Nat × List AH × Int) (fun x => ⟨[(2, tP 2 0), (3, tP 3 0), (4, tP 4 0), (5, tP 5 0), (6, tI x.2.2)], [(2, .cells (AQ.c s) 29), (3, .cells (AO.c m) 66), (4, Z0z), (5, .cells [.i s.Kind, .own 100000 7 x.2.1.length, .i s.R] 29), (100000, .row 7 x.2.1.length (AY AH.c x.2.1) 133)]⟩) (fun x => ((s.Edges.length : Int) - x.2.2).toNat < x.1 /\ (0 <= x.2.2 /\ (x.2.2 <= (s.Edges.length : Int) \/ x.2.2 = 0) /\ (x.2.1.length : Int) <= 0 + 1 * (x.2.2 - 0)) /\ EC s m x.1 x.2.1 x.2.2 = DE s m) (fun x => x.1) ?_ (((s.Edges.length : Int) - 0).toNat + 1, ([] : List AH), 0) ⟨Nat.lt_succ_self _, ⟨ax0, ax0, ax0⟩, (by simp only [DE, cond_true, cond_false])⟩
 rintro ⟨n0, out_1, k⟩ ⟨hn, hinv, hF⟩
 have hm0 := hn; have hinv0 := hinv; have hF0 := hF; try dsimp only at hm0 hinv0 hF0
 clear hn hinv hF
 cases n0 with
 | zero => exact absurd hm0 (Nat.not_lt_zero _)
 | succ n0 =>
  refine AC <| AC ?_
  refine rn ⟨[(2, tP 2 0), (3, tP 3 0), (4, tP 4 0), (5, tP 5 0), (6, tI k), (16, tB (decide ((k : Int) < (s.Edges.length : Int))))], [(2, .cells (AQ.c s) 29), (3, .cells (AO.c m) 66), (4, Z0z), (5, .cells [.i s.Kind, .own 100000 7 out_1.length, .i s.R] 29), (100000, .row 7 out_1.length (AY AH.c out_1) 133)]⟩ ?_
  refine Ae _ rfl (fun h1 => ?_) (fun h1 => ?_)
  ·have g1 := oT h1
   refine Ak <| AJ ?_
   refine AC <| Af ?_
   refine dw [] [(27, Eb (s.Edges.getD k.toNat default) m)] [0 <= (k : Int) /\ (k : Int) < ((s.Edges.length : Nat) : Int), Al (Eb (s.Edges.getD k.toNat default) m).2.1, out_1.length = out_1.length, out_1.length + 1 <= maxLen, (out_1.length + 1) * 56 <= 140737488355328] ⟨[(2, tP 2 0), (3, tP 3 0), (4, tP 4 0), (5, tP 5 0), (6, tI k)], [(2, .cells (AQ.c s) 29), (3, .cells (AO.c m) 66), (4, Z0z), (5, .cells [.i s.Kind, .own 29 7 (out_1.length + 1), .i s.R] 29), (29, .row 7 (out_1.length + 1) (fun i_ j_ => if i_ < out_1.length then (AY AH.c out_1) i_ j_ else (A0 7 1 [.i (Z0C s k m).Kind, .i (Z0C s k m).A.X, .i (Z0C s k m).A.Y, .i (Z0C s k m).B.X, .i (Z0C s k m).B.Y, .i (Z0C s k m).C.X, .i (Z0C s k m).C.Y]) (i_ - out_1.length) j_) 133)]⟩ (.cons (NF (s.Edges.getD k.toNat default) m) .nil) (.cons au0 (.cons rfl (.cons rfl (.cons au3 (.cons au3 .nil))))) <| Bq <| AJ ?_
   refine Bl (Cv.trans (BR (⟨[(2, tP 2 0), (3, tP 3 0), (4, tP 4 0), (5, tP 5 0), (6, tI k)], [(2, .cells (AQ.c s) 29), (3, .cells (AO.c m) 66), (4, Z0z), (5, .cells [.i s.Kind, .own 29 7 (out_1 ++ [Z0C s k m]).length, .i s.R] 29), (29, Z0D out_1 s k m)]⟩) lr (.cons ⟨rfl, .refl _⟩ (.cons ⟨rfl, .refl _⟩ (.cons ⟨rfl, .refl _⟩ (.cons ⟨rfl, .cells _ (rr (.cons (.own _ _ au2) (rr .nil)))⟩ (.cons ⟨rfl, Aw 133 (BV (BK 7 AH.c out_1) (A2 (c := AH.c) (xs := ([Z0C s k m] : List AH)) rfl kr))⟩ .nil)))))) (Cv.refl _)) ?_
   refine rg ⟨[(2, tP 2 0), (3, tP 3 0), (4, tP 4 0), (5, tP 5 0), (6, tI (W64 (k + 1)))], [(2, .cells (AQ.c s) 29), (3, .cells (AO.c m) 66), (4, Z0z), (5, .cells [.i s.Kind, .own 29 7 (out_1 ++ [Z0C s k m]).length, .i s.R] 29), (29, Z0D out_1 s k m)]⟩ ?_
   (try rw [(show W64 (k + 1) = k + 1 from BP (by omega) au9)])
   refine AJ ?_
   refine ⟨(n0, out_1 ++ [Z0C s k m], k + 1), ⟨?_, ?_, (by rw [<- hF0]; simp only [EC, h1, cond_true, cond_false])⟩, Nat.lt_succ_self _, Cv.trans (Be (⟨[(2, tP 2 0), (3, tP 3 0), (4, tP 4 0), (5, tP 5 0), (6, tI (k + 1))], [(2, .cells (AQ.c s) 29), (3, .cells (AO.c m) 66), (4, Z0z), (5, .cells [.i s.Kind, .own 100000 7 (out_1 ++ [Z0C s k m]).length, .i s.R] 29), (100000, Z0D out_1 s k m)]⟩) 29 100000 (K := []) (fun k x h => by cases h) rfl rfl kr kr) (A6 kr)⟩
   ·show ((s.Edges.length : Int) - (k + 1)).toNat < n0; omega
   ·exact ⟨ax0, ax0, ax0⟩
  ·have g1 := oF h1
   refine BZ <| BI ?_
   refine BI <| Ba ?_
   refine AJ <| AC ?_
   refine rn ⟨[(4, tP 4 0)], [(4, .cells [.i s.Kind, .own 100000 7 out_1.length, .i s.R] 29), (100000, .row 7 out_1.length (AY AH.c out_1) 133)]⟩ <| Aj ?_
   exact ⟨_, Cv.trans (Cu (⟨[(4, tP 4 0)], [(4, .cells [.i s.Kind, lst 7 AH.c out_1, .i s.R] 29)]⟩) 100000 7 out_1.length (AY AH.c out_1) 133 (K := []) (fun k x h => by cases h) kr kr (.cons ⟨rfl, rfl⟩ .nil) kr) (Cv.refl _), .inl rfl, .av (.agg [.i s.Kind, lst 7 AH.c out_1, .i s.R]), by kernel_rfl, Ao (by rw [<- hF0]; first | (simp only [EC, h1, cond_true, cond_false] <;> rfl))⟩
theorem Ri (s : AQ) (m : AO) (h0 : (s.Edges.length : Int) <= 1000000) : A1 Try.prog (HO s m).1 (HO s m).2.1 (HO s m).2.2 := Aa (fun _ _ => kr) fun _ => TL s m h0
def Z0E : Blk := .cells [.i 0, .s (⟨#[]⟩), .i 0, .s (⟨#[]⟩), .i 0, .i 0, .i 0, vN, .i 0] 63
def Z0F (p : AD) (pad : Ap) (b : AF) : Blk := .cells [.i p.Id, .s pad.Name, .i 1, .s (EB b (AR.mk p.Ref pad.Name)), .i 1, .i b.Layers, .i 0, vN, .i 0] 63
def Ig (b : AF) (p : AD) (pad : Ap) : Ar := Ar.mk p.Id pad.Name 1 (EB b (AR.mk p.Ref pad.Name)) (bif decide ((pad.Drill : Int) = 0) then (Ch b p) else 1) (bif decide ((pad.Drill : Int) = 0) then (Ch b p) else b.Layers) (DE pad.Shape (CQ p))
def HL (b : AF) (p : AD) (pad : Ap) : FuncId × List Av × Ef := (49, [.agg (Ag b), .agg (AD.c p), .agg (Ap.c pad)], .val [] (.av (.agg (Ar.c (Ig b p pad)))))
theorem TD (b : AF) (p : AD) (pad : Ap) (hn : (b.Nets.length : Int) <= 1000000) (hq : ∀ n ∈ b.Nets, (n.Pins.length : Int) <= 1000000) (he : (pad.Shape.Edges.length : Int) <= 1000000) : Bo Try.prog 49 (HL b p pad).2.1 (.av (.agg (Ar.c (Ig b p pad)))) := by
 refine AX Try.func49 rfl kr kr fun W0 M0 => ?_
 refine AC <| rn ⟨[(3, tP 3 0), (4, tP 4 0), (5, tP 5 0), (6, tP 6 0)], [(3, .cells (Ag b) 42), (4, .cells (AD.c p) 59), (5, .cells (Ap.c pad) 118), (6, Z0E)]⟩ <| AC ?_
 refine dw [] [(18, Iz b (AR.mk p.Ref pad.Name))] [Al (Iz b (AR.mk p.Ref pad.Name)).2.1] ⟨[(3, tP 3 0), (4, tP 4 0), (5, tP 5 0), (6, tP 6 0), (7, tP 7 0)], [(3, .cells (Ag b) 42), (4, .cells (AD.c p) 59), (5, .cells (Ap.c pad) 118), (6, Z0E), (7, Z0F p pad b)]⟩ (.cons (TU b (AR.mk p.Ref pad.Name) au6 au6) .nil) (.cons rfl .nil) <| AJ ?_
 refine AC <| AC ?_
 refine rn ⟨[(3, tP 3 0), (4, tP 4 0), (5, tP 5 0), (6, tP 6 0), (7, tP 7 0), (24, tB (decide ((pad.Drill : Int) = 0)))], [(3, .cells (Ag b) 42), (4, .cells (AD.c p) 59), (5, .cells (Ap.c pad) 118), (6, Z0E), (7, Z0F p pad b)]⟩ ?_
 refine Bm (⟨[(4, tP 4 0), (5, tP 5 0), (6, tP 6 0), (7, tP 7 0)], [(4, .cells (AD.c p) 59), (5, .cells (Ap.c pad) 118), (6, .cells [.i 0, .s (⟨#[]⟩), .i 0, .s (⟨#[]⟩), .i 0, .i 0, .i 0, vN, .i 0] 63), (7, .cells [.i p.Id, .s pad.Name, .i 1, .s (EB b (AR.mk p.Ref pad.Name)), .i (bif decide ((pad.Drill : Int) = 0) then (Ch b p) else 1), .i (bif decide ((pad.Drill : Int) = 0) then (Ch b p) else b.Layers), .i 0, vN, .i 0] 63)]⟩) ?_ ?_
 ·refine Ae _ rfl (fun h1 => ?_) (fun h1 => ?_)
  ·have g1 := oT h1
   refine AC <| rc [(27, Fl b p)] [Al (Fl b p).2.1] ⟨[(4, tP 4 0), (5, tP 5 0), (6, tP 6 0), (7, tP 7 0)], [(4, .cells (AD.c p) 59), (5, .cells (Ap.c pad) 118), (6, Z0E), (7, .cells [.i p.Id, .s pad.Name, .i 1, .s (EB b (AR.mk p.Ref pad.Name)), .i (Ch b p), .i b.Layers, .i 0, vN, .i 0] 63)]⟩ (.cons (ND b p) .nil) (.cons rfl .nil) <| AJ ?_
   refine rn ⟨[(4, tP 4 0), (5, tP 5 0), (6, tP 6 0), (7, tP 7 0)], [(4, .cells (AD.c p) 59), (5, .cells (Ap.c pad) 118), (6, Z0E), (7, .cells [.i p.Id, .s pad.Name, .i 1, .s (EB b (AR.mk p.Ref pad.Name)), .i (Ch b p), .i (Ch b p), .i 0, vN, .i 0] 63)]⟩ ?_
   refine A6 ?_
   first | rfl | (simp only [h1, cond_true, cond_false] <;> rfl)
  ·have g1 := oF h1
   refine Ak <| AJ ?_
   refine Cv.trans (BA [4, 5, 6, 7] [4, 5, 6, 7] (⟨[(4, tP 4 0), (5, tP 5 0), (6, tP 6 0), (7, tP 7 0)], [(4, .cells (AD.c p) 59), (5, .cells (Ap.c pad) 118), (6, Z0E), (7, Z0F p pad b)]⟩) kr) (A6 ?_)
   first | rfl | (simp only [h1, cond_true, cond_false] <;> rfl)
 refine AC <| dw [] [(35, EG p), (36, HO pad.Shape (CQ p))] [Al (EG p).2.1, Al (HO pad.Shape (CQ p)).2.1] ⟨[(6, tP 6 0), (7, tP 7 0)], [(6, Z0E), (7, .cells [.i p.Id, .s pad.Name, .i 1, .s (EB b (AR.mk p.Ref pad.Name)), .i (bif decide ((pad.Drill : Int) = 0) then (Ch b p) else 1), .i (bif decide ((pad.Drill : Int) = 0) then (Ch b p) else b.Layers), .i (DE pad.Shape (CQ p)).Kind, lst 7 AH.c (DE pad.Shape (CQ p)).Edges, .i (DE pad.Shape (CQ p)).R] 63)]⟩ (.cons (J8 p) (.cons (Ri pad.Shape (CQ p) au6) .nil)) (.cons rfl (.cons rfl .nil)) <| AJ <| AC ?_
 refine rn ⟨[(6, tP 6 0)], [(6, .cells [.i p.Id, .s pad.Name, .i 1, .s (EB b (AR.mk p.Ref pad.Name)), .i (bif decide ((pad.Drill : Int) = 0) then (Ch b p) else 1), .i (bif decide ((pad.Drill : Int) = 0) then (Ch b p) else b.Layers), .i (DE pad.Shape (CQ p)).Kind, lst 7 AH.c (DE pad.Shape (CQ p)).Edges, .i (DE pad.Shape (CQ p)).R] 63)]⟩ <| Aj ?_
 exact ⟨_, Cv.refl _, .inl rfl, .av (.agg [.i p.Id, .s pad.Name, .i 1, .s (EB b (AR.mk p.Ref pad.Name)), .i (bif decide ((pad.Drill : Int) = 0) then (Ch b p) else 1), .i (bif decide ((pad.Drill : Int) = 0) then (Ch b p) else b.Layers), .i (DE pad.Shape (CQ p)).Kind, lst 7 AH.c (DE pad.Shape (CQ p)).Edges, .i (DE pad.Shape (CQ p)).R]), by kernel_rfl, Ao (by rfl)⟩
theorem Re (b : AF) (p : AD) (pad : Ap) (hn : (b.Nets.length : Int) <= 1000000) (hq : ∀ n ∈ b.Nets, (n.Pins.length : Int) <= 1000000) (he : (pad.Shape.Edges.length : Int) <= 1000000) : A1 Try.prog (HL b p pad).1 (HL b p pad).2.1 (HL b p pad).2.2 := Aa (fun _ _ => kr) fun _ => TD b p pad hn hq he
def Z0G (out : List AD) (at_ : Int) (b : AF) (k : Int) : Tv := .av (.one (.own 49 7 (((out.take (at_ : Int).toNat) ++ [b.Parts.getD k.toNat default]) ++ (out.drop (at_ : Int).toNat)).length))
def Z0H (out : List AD) (at_ : Int) (b : AF) (k : Int) : Blk := .row 7 (((out.take (at_ : Int).toNat) ++ [b.Parts.getD k.toNat default]) ++ (out.drop (at_ : Int).toNat)).length (AY AD.c (((out.take (at_ : Int).toNat) ++ [b.Parts.getD k.toNat default]) ++ (out.drop (at_ : Int).toNat))) 59
def DR (b : AF) (out : List AD) (k : Int) (K0 : List AD -> Int -> (List AD)) : Nat -> Int -> (List AD)
 | 0, _ => default
 | n1 + 1, at_ => bif bif decide ((0 : Int) < at_) then decide (((b.Parts.getD k.toNat default).Id : Int) < (out.getD (at_ - 1).toNat default).Id) else false then ((DR b out k K0 n1) (at_ - 1)) else (K0 (((out.take (at_ : Int).toNat) ++ [b.Parts.getD k.toNat default]) ++ (out.drop (at_ : Int).toNat)) (k + 1))
def C5 (b : AF) : Nat -> List AD -> Int -> (List AD)
 | 0, _, _ => default
 | n0 + 1, out, k => bif decide ((k : Int) < (b.Parts.length : Int)) then (DR b out k (C5 b n0) ((out.length : Int).toNat + 1) (out.length : Int)) else out
def BF (b : AF) : (List AD) := C5 b (((b.Parts.length : Int) - 0).toNat + 1) [] 0
def GH (b : AF) : FuncId × List Av × Ef := (48, [.agg (Ag b)], .val [] (.av (.one (lst 7 AD.c (BF b)))))
theorem au15 {p : Prop} (h : p := by first | omega | (unfold maxLen; omega)) : p := h
theorem RX (b : AF) (hp : (b.Parts.length : Int) <= 1000000) : Bo Try.prog 48 (GH b).2.1 (tO (lst 7 AD.c (BF b))) := by
 refine AX Try.func48 rfl kr kr fun W0 M0 => ?_
 refine AC <| rn ⟨[(1, tP 1 0)], [(1, .cells (Ag b) 42)]⟩ <| AC ?_
 refine rn ⟨[(1, tP 1 0), (3, .av (.one vN))], [(1, .cells (Ag b) 42)]⟩ ?_
 refine AC <| AC ?_
 refine rn ⟨[(1, tP 1 0), (3, .av (.one vN)), (4, tI 0)], [(1, .cells (Ag b) 42)]⟩ <| Af ?_
 refine Bl (Cv.trans (BR (⟨[(1, tP 1 0), (3, tO (lst 7 AD.c [])), (4, tI 0)], [(1, .cells (Ag b) 42)]⟩) (.cons ⟨rfl, .refl _⟩ (.cons ⟨rfl, .av (.one (A8 7 AD.c))⟩ lr)) lr) (Cv.refl _)) ?_
 refine BL (ι := Nat × List AD × Int) (fun x => ⟨[(1, tP 1 0), (3, tO (lst 7 AD.c x.2.1)), (4, tI x.2.2)], [(1, .cells (Ag b) 42)]⟩) (fun x => ((b.Parts.length : Int) - x.2.2).toNat < x.1 /\ ((x.2.1.length : Int) = x.2.2 /\ 0 <= x.2.2 /\ (x.2.2 <= (b.Parts.length : Int) \/ x.2.2 = 0)) /\ C5 b x.1 x.2.1 x.2.2 = BF b) (fun x => x.1) ?_ (((b.Parts.length : Int) - 0).toNat + 1, [], 0) ⟨Nat.lt_succ_self _, ⟨ax0, ax0, ax0⟩, (by simp only [BF, cond_true, cond_false])⟩
 rintro ⟨n0, out, k⟩ ⟨hn, hinv, hF⟩
 have hm0 := hn; have hinv0 := hinv; have hF0 := hF; try dsimp only at hm0 hinv0 hF0
 clear hn hinv hF
 cases n0 with
 | zero => exact absurd hm0 (Nat.not_lt_zero _)
 | succ n0 =>
  refine AC <| AC ?_
  refine rn ⟨[(1, tP 1 0), (3, tO (lst 7 AD.c out)), (4, tI k), (10, tB (decide ((k : Int) < (b.Parts.length : Int))))], [(1, .cells (Ag b) 42)]⟩ ?_
  refine Ae _ rfl (fun h1 => ?_) (fun h1 => ?_)
  ·have g1 := oT h1
   refine Ak <| AJ ?_
   refine AC <| Af <| AC ?_
   refine rn ⟨[(1, tP 1 0), (3, tO (lst 7 AD.c out)), (4, tI k), (5, tI (out.length : Int))], [(1, .cells (Ag b) 42)]⟩ ?_
   refine AC <| Af ?_
   refine BL (ι := Nat × Int) (fun x => ⟨[(1, tP 1 0), (3, tO (lst 7 AD.c out)), (4, tI k), (5, tI x.2)], [(1, .cells (Ag b) 42)]⟩) (fun x => x.2.toNat < x.1 /\ (0 <= x.2 /\ x.2 <= (out.length : Int)) /\ DR b out k (C5 b n0) x.1 x.2 = BF b) (fun x => x.1) ?_ ((out.length : Int).toNat + 1, (out.length : Int)) ⟨Nat.lt_succ_self _, ⟨ax0, ax0⟩, (by rw [<- hF0]; simp only [C5, h1, cond_true, cond_false])⟩
   rintro ⟨n1, at_⟩ ⟨hn, hinv, hF⟩
   have hm1 := hn; have hinv1 := hinv; have hF1 := hF; try dsimp only at hm1 hinv1 hF1
   clear hn hinv hF
   cases n1 with
   | zero => exact absurd hm1 (Nat.not_lt_zero _)
   | succ n1 =>
    refine AC <| AC ?_
    refine dw [] [] [((decide ((0 : Int) < at_)) = true) -> ((decide ((0 : Int) < at_)) = true), ((decide ((0 : Int) < at_)) = true) -> ((decide ((0 : Int) < at_)) = true), ((decide ((0 : Int) < at_)) = true) -> ((decide ((0 : Int) < at_)) = true), ((decide ((0 : Int) < at_)) = true) -> (0 <= (W64 (at_ - 1) : Int) /\ (W64 (at_ - 1) : Int) < ((out.length : Nat) : Int)), ((decide ((0 : Int) < at_)) = true) -> ((decide ((0 : Int) < at_)) = true), ((decide ((0 : Int) < at_)) = true) -> ((decide ((0 : Int) < at_)) = true), ((decide ((0 : Int) < at_)) = true) -> ((decide ((0 : Int) < at_)) = true), ((decide ((0 : Int) < at_)) = true) -> ((decide ((0 : Int) < at_)) = true), ((decide ((0 : Int) < at_)) = true) -> ((decide ((0 : Int) < at_)) = true), ((decide ((0 : Int) < at_)) = true) -> (0 <= (k : Int) /\ (k : Int) < ((b.Parts.length : Nat) : Int)), ((decide ((0 : Int) < at_)) = true) -> ((decide ((0 : Int) < at_)) = true), ((decide ((0 : Int) < at_)) = true) -> ((decide ((0 : Int) < at_)) = true), ((decide ((0 : Int) < at_)) = true) -> ((decide ((0 : Int) < at_)) = true), ((decide ((0 : Int) < at_)) = true) -> ((decide ((0 : Int) < at_)) = true), (decide ((0 : Int) < at_)) = true -> ((decide ((0 : Int) < at_)) = true)] ⟨[(1, tP 1 0), (3, tO (lst 7 AD.c out)), (4, tI k), (5, tI at_), (31, tB (bif decide ((0 : Int) < at_) then decide (((b.Parts.getD k.toNat default).Id : Int) < (out.getD (W64 (at_ - 1)).toNat default).Id) else false))], [(1, .cells (Ag b) 42)]⟩ .nil (.cons id (.cons id (.cons id (.cons (fun hG => by first | exact (by omega) | (simp only [decide_eq_true_eq, decide_eq_false_iff_not, Bool.not_eq_true, Bool.and_eq_true] at hG <;> omega) | (simp at hG <;> omega) | (simp only [decide_eq_true_eq, decide_eq_false_iff_not] at hG; simp only [C1]; omega)) (.cons id (.cons id (.cons id (.cons id (.cons id (.cons (fun hG => by first | exact (by omega) | (simp only [decide_eq_true_eq, decide_eq_false_iff_not, Bool.not_eq_true, Bool.and_eq_true] at hG <;> omega) | (simp at hG <;> omega) | (simp only [decide_eq_true_eq, decide_eq_false_iff_not] at hG; simp only [C1]; omega)) (.cons id (.cons id (.cons id (.cons id (.cons id .nil))))))))))))))) ?_
    (try rw [(show W64 (at_ - 1) = at_ - 1 from BP (by omega) (by omega))])
    refine AJ ?_
    refine Ae _ rfl (fun h2 => ?_) (fun h2 => ?_)
    ·have g2 := IY h2
     refine Ak <| AJ <| Af ?_
     refine rg ⟨[(1, tP 1 0), (3, tO (lst 7 AD.c out)), (4, tI k), (5, tI (W64 (at_ - 1)))], [(1, .cells (Ag b) 42)]⟩ ?_
     (try rw [(show W64 (at_ - 1) = at_ - 1 from BP (by omega) (by omega))])
     refine Bq <| AJ ?_
     refine ⟨(n1, at_ - 1), ⟨?_, ?_, (by rw [<- hF1]; simp only [DR, h2, cond_true, cond_false])⟩, Nat.lt_succ_self _, A6 kr⟩
     ·show (at_ - 1).toNat < n1; omega
     ·exact ⟨ax0, ax0⟩
    ·refine BZ <| BI ?_
     refine BI <| Ba <| AJ ?_
     refine dw [34] [] [0 <= (0 : Int) /\ (0 : Int) <= (at_ : Int) /\ (at_ : Int) <= ((out.length : Nat) : Int), 0 = 0, 0 + ((at_ : Int).toNat - (0 : Int).toNat) <= maxLen, (0 + ((at_ : Int).toNat - (0 : Int).toNat)) * 72 <= 140737488355328, 0 <= (k : Int) /\ (k : Int) < ((b.Parts.length : Nat) : Int), 0 + ((at_ : Int).toNat - (0 : Int).toNat) = 0 + ((at_ : Int).toNat - (0 : Int).toNat), (0 + ((at_ : Int).toNat - (0 : Int).toNat)) + 1 <= maxLen, ((0 + ((at_ : Int).toNat - (0 : Int).toNat)) + 1) * 72 <= 140737488355328, 0 <= (at_ : Int) /\ (at_ : Int) <= (((out.length : Nat) : Int) : Int) /\ (((out.length : Nat) : Int) : Int) <= ((out.length : Nat) : Int), (0 + ((at_ : Int).toNat - (0 : Int).toNat)) + 1 = (0 + ((at_ : Int).toNat - (0 : Int).toNat)) + 1, ((0 + ((at_ : Int).toNat - (0 : Int).toNat)) + 1) + ((((out.length : Nat) : Int) : Int).toNat - (at_ : Int).toNat) <= maxLen, (((0 + ((at_ : Int).toNat - (0 : Int).toNat)) + 1) + ((((out.length : Nat) : Int) : Int).toNat - (at_ : Int).toNat)) * 72 <= 140737488355328] ⟨[(1, tP 1 0), (3, tO (.own 49 7 (((0 + ((at_ : Int).toNat - (0 : Int).toNat)) + 1) + ((((out.length : Nat) : Int) : Int).toNat - (at_ : Int).toNat)))), (4, tI k)], [(1, .cells (Ag b) 42), (49, .row 7 (((0 + ((at_ : Int).toNat - (0 : Int).toNat)) + 1) + ((((out.length : Nat) : Int) : Int).toNat - (at_ : Int).toNat)) (fun i_ j_ => if i_ < ((0 + ((at_ : Int).toNat - (0 : Int).toNat)) + 1) then (fun i_ j_ => if i_ < (0 + ((at_ : Int).toNat - (0 : Int).toNat)) then (fun i_ j_ => if i_ < 0 then (A0 7 0 []) i_ j_ else (fun i_ j_ => (AY AD.c out) (i_ + (0 : Int).toNat) j_) (i_ - 0) j_) i_ j_ else (A0 7 1 [.i (b.Parts.getD k.toNat default).Id, .s (b.Parts.getD k.toNat default).Ref, .s (b.Parts.getD k.toNat default).Type', .i (b.Parts.getD k.toNat default).At.X, .i (b.Parts.getD k.toNat default).At.Y, .i (b.Parts.getD k.toNat default).Turn, .b (b.Parts.getD k.toNat default).Under]) (i_ - (0 + ((at_ : Int).toNat - (0 : Int).toNat))) j_) i_ j_ else (fun i_ j_ => (AY AD.c out) (i_ + (at_ : Int).toNat) j_) (i_ - ((0 + ((at_ : Int).toNat - (0 : Int).toNat)) + 1)) j_) 59)]⟩ .nil (.cons (by omega) (.cons rfl (.cons au15 (.cons au15 (.cons (by omega) (.cons rfl (.cons au15 (.cons au15 (.cons (by omega) (.cons rfl (.cons au15 (.cons au15 .nil)))))))))))) <| Bq <| AJ ?_
     refine Bl (Cv.trans (BR (⟨[(1, tP 1 0), (3, Z0G out at_ b k), (4, tI k)], [(1, .cells (Ag b) 42), (49, Z0H out at_ b k)]⟩) (.cons ⟨rfl, .refl _⟩ (.cons ⟨rfl, .av (.one (.own _ _ au2))⟩ lr)) (.cons ⟨rfl, .refl _⟩ (.cons ⟨rfl, Aw 59 (BV (BV (BV (A2 (c := AD.c) (xs := (([] : List AD) : List AD)) rfl kr) (G9 (b := at_) (BK 7 AD.c out) (by have hc := (show 0 <= (0 : Int) /\ (0 : Int) <= (at_ : Int) /\ (at_ : Int) <= ((out.length : Nat) : Int) from (by omega)); exact hc.2.1) (by have hc := (show 0 <= (0 : Int) /\ (0 : Int) <= (at_ : Int) /\ (at_ : Int) <= ((out.length : Nat) : Int) from (by omega)); exact hc.2.2))) (A2 (c := AD.c) (xs := ([b.Parts.getD k.toNat default] : List AD)) rfl kr)) (K6 (a := at_) (BK 7 AD.c out) (by have hc := (show 0 <= (at_ : Int) /\ (at_ : Int) <= (((out.length : Nat) : Int) : Int) /\ (((out.length : Nat) : Int) : Int) <= ((out.length : Nat) : Int) from (by omega)); exact hc.1) (by have hc := (show 0 <= (at_ : Int) /\ (at_ : Int) <= (((out.length : Nat) : Int) : Int) /\ (((out.length : Nat) : Int) : Int) <= ((out.length : Nat) : Int) from (by omega)); exact hc.2.1)))⟩ .nil))) (Cv.refl _)) ?_
     refine rg ⟨[(1, tP 1 0), (3, Z0G out at_ b k), (4, tI (W64 (k + 1)))], [(1, .cells (Ag b) 42), (49, Z0H out at_ b k)]⟩ ?_
     (try rw [(show W64 (k + 1) = k + 1 from BP (by omega) au9)])
     refine AJ ?_
     refine ⟨(n0, ((out.take (at_ : Int).toNat) ++ [b.Parts.getD k.toNat default]) ++ (out.drop (at_ : Int).toNat), k + 1), ⟨?_, ?_, (by rw [<- hF1]; simp only [DR, h2, cond_true, cond_false])⟩, Nat.lt_succ_self _, Cv.trans (Cu (⟨[(1, tP 1 0), (3, tO (lst 7 AD.c (((out.take (at_ : Int).toNat) ++ [b.Parts.getD k.toNat default]) ++ (out.drop (at_ : Int).toNat)))), (4, tI (k + 1))], [(1, .cells (Ag b) 42)]⟩) 49 7 (((out.take (at_ : Int).toNat) ++ [b.Parts.getD k.toNat default]) ++ (out.drop (at_ : Int).toNat)).length (AY AD.c (((out.take (at_ : Int).toNat) ++ [b.Parts.getD k.toNat default]) ++ (out.drop (at_ : Int).toNat))) 59 (K := []) (fun k x h => by cases h) kr kr (.cons ⟨rfl, rfl⟩ .nil) kr) (A6 kr)⟩
     ·show ((b.Parts.length : Int) - (k + 1)).toNat < n0; omega
     ·exact (by show ((((out.take (at_ : Int).toNat) ++ [b.Parts.getD k.toNat default]) ++ (out.drop (at_ : Int).toNat)).length : Int) = (k + 1) /\ 0 <= (k + 1) /\ ((k + 1) <= (b.Parts.length : Int) \/ (k + 1) = 0); (simp only [List.length_append, List.length_take, List.length_drop, List.length_cons, List.length_nil]; omega))
  ·have g1 := oF h1
   refine BZ <| BI ?_
   refine BI <| Ba ?_
   refine AJ <| AC ?_
   refine rn ⟨[(2, tO (lst 7 AD.c out))], []⟩ <| Aj ?_
   exact ⟨_, Cv.refl _, .inl rfl, tO (lst 7 AD.c out), by kernel_rfl, Ao (by rw [<- hF0]; first | (simp only [C5, h1, cond_true, cond_false] <;> rfl))⟩
theorem QW (b : AF) (hp : (b.Parts.length : Int) <= 1000000) : A1 Try.prog (GH b).1 (GH b).2.1 (GH b).2.2 := Aa (fun _ _ => kr) fun _ => RX b hp
theorem Oa (b : AF) (out : List AD) (k : Nat) (K0 : List AD -> Int -> List AD) : ∀ (j m : Nat), j < m -> DR b out k K0 m j = K0 (out.take (Fu (fun y => decide ((b.Parts.getD k default).Id < y.Id)) out j) ++ [b.Parts.getD k default] ++ out.drop (Fu (fun y => decide ((b.Parts.getD k default).Id < y.Id)) out j)) ((k : Int) + 1) := by
 intro j
 induction j with
 | zero =>
  intro m hm
  obtain ⟨m, rfl⟩ : ∃ k, m = k + 1 := ⟨m - 1, by omega⟩
  rw [DR]
  simp only [Int.toNat_natCast]
  rfl
 | succ j ih =>
  intro m hm
  obtain ⟨m, rfl⟩ : ∃ k, m = k + 1 := ⟨m - 1, by omega⟩
  rw [DR, Fu, decide_eq_true (show (0 : Int) < ((j + 1 : Nat) : Int) by omega), cond_true]
  have e : (((j + 1 : Nat) : Int) - 1) = (j : Int) := by omega
  rw [e]
  simp only [Int.toNat_natCast]
  cases decide ((b.Parts.getD k default).Id < (out.getD j default).Id) with
  | true => exact ih m (by omega)
  | false => rfl
theorem JQ (b : AF) : BF b = Ft (fun x y => decide (x.Id < y.Id)) b.Parts := by
 have h := MS b.Parts (MK fun x y : AD => decide (x.Id < y.Id)) (C5 b) (fun acc _ => acc) (fun m acc v => by
  rw [C5, Oa b acc v (C5 b m) acc.length _ (by omega)]
  unfold MK
  rw [List.append_assoc]
  rfl) b.Parts.length 0 (((((b.Parts.length : Int))) - 0).toNat + 1) [] rfl (Nat.zero_le _) (by omega)
 rw [List.drop_zero] at h
 exact h
theorem J4 (b : AF) : BF b = BN b.Parts := by
 rw [JQ, Sr]
 congr 1
 funext x y
 unfold Ih DY Ek
 by_cases h : x.Id < y.Id <;> by_cases k : y.Id < x.Id <;> simp [h, k]
theorem M8 (b : AF) : (BF b).length = b.Parts.length := by rw [JQ]; exact Hs _ _
def Z0I (b : AF) (v9 : Int) (p : AR) : Bool := !((b.Parts.getD v9.toNat default).Ref.toList == p.Ref.toList)
def Z0J (types : (List AG)) (b : AF) (v9 : Int) : AG := (BJ types (b.Parts.getD v9.toNat default).Type').1
def Z0K (types : (List AG)) (b : AF) (v9 : Int) : Bool := !((BJ types (b.Parts.getD v9.toNat default).Type').2)
def Z0L (types : (List AG)) (b : AF) (v9 : Int) (p : AR) : Bool := bif Z0K types b v9 then true else !((DX (Z0J types b v9) p.Pad).2)
def Z0M (b : AF) (v9 : Int) : AO := CQ (b.Parts.getD v9.toNat default)
def Z0N (types : (List AG)) (b : AF) (v9 : Int) (p : AR) : AE := (DX (Z0J types b v9) p.Pad).1.At
def Z0O (b : AF) (v9 : Int) (types : (List AG)) (p : AR) : AE := Ab (Z0M b v9) (Z0N types b v9 p)
def EU (b : AF) (types : (List AG)) (p : AR) : Nat -> Int -> (AE × Int × Bool)
 | 0, _ => default
 | n0 + 1, v9 => bif decide ((v9 : Int) < (b.Parts.length : Int)) then (bif Z0I b v9 p then ((EU b types p n0) (v9 + 1)) else (bif Z0L types b v9 p then (AE.mk 0 0, 0, false) else (Z0O b v9 types p, Ch b (b.Parts.getD v9.toNat default), true))) else (AE.mk 0 0, 0, false)
def Du (b : AF) (types : (List AG)) (p : AR) : (AE × Int × Bool) := EU b types p (((b.Parts.length : Int) - 0).toNat + 1) 0
def Lm (b : AF) (types : (List AG)) (p : AR) : FuncId × List Av × Ef := (11, [.agg (Ag b), .one (lst 3 AG.c types), .agg (AR.c p)], .val [] (.tup [.agg (AE.c (Du b types p).1), .one (.i (Du b types p).2.1), .one (.b (Du b types p).2.2)]))
theorem au18 {p : Prop} (h : p := by first | (exact LQ ht _) | (exact SB ht _ _) | with_reducible assumption | omega | decide | (simp only [List.length_cons, List.length_nil, List.length_append]; omega) | assumption) : p := h
theorem pAt18 (b : AF) (types : (List AG)) (p : AR) (hp : (b.Parts.length : Int) <= 1000000) (ht : B1 types) : Bo Try.prog 11 (Lm b types p).2.1 (.tup [.agg (AE.c (Du b types p).1), .one (.i (Du b types p).2.1), .one (.b (Du b types p).2.2)]) := by
 refine AX Try.func11 rfl kr kr fun W0 M0 => ?_
 have ht1 := ht.1
 refine AC <| rn ⟨[(1, tO (lst 3 AG.c types)), (3, tP 3 0), (5, tP 5 0), (6, tP 6 0)], [(3, .cells (Ag b) 42), (5, .cells (AR.c p) 25), (6, .cells [.i 0, .i 0] 52)]⟩ ?_
 refine AC <| AC ?_
 refine rn ⟨[(1, tO (lst 3 AG.c types)), (3, tP 3 0), (5, tP 5 0), (6, tP 6 0), (9, tI 0)], [(3, .cells (Ag b) 42), (5, .cells (AR.c p) 25), (6, .cells [.i 0, .i 0] 52)]⟩ <| Af ?_
 refine BL (ι := Nat × Int) (fun x => ⟨[(1, tO (lst 3 AG.c types)), (3, tP 3 0), (5, tP 5 0), (6, tP 6 0), (9, tI x.2)], [(3, .cells (Ag b) 42), (5, .cells (AR.c p) 25), (6, .cells [.i 0, .i 0] 52)]⟩) (fun x => ((b.Parts.length : Int) - x.2).toNat < x.1 /\ (0 <= x.2 /\ (x.2 <= (b.Parts.length : Int) \/ x.2 = 0)) /\ EU b types p x.1 x.2 = Du b types p) (fun x => x.1) ?_ (((b.Parts.length : Int) - 0).toNat + 1, 0) ⟨Nat.lt_succ_self _, ⟨ax0, ax0⟩, (by simp only [Du, cond_true, cond_false])⟩
 rintro ⟨n0, v9⟩ ⟨hn, hinv, hF⟩
 have hm0 := hn; have hinv0 := hinv; have hF0 := hF; try dsimp only at hm0 hinv0 hF0
 clear hn hinv hF
 cases n0 with
 | zero => exact absurd hm0 (Nat.not_lt_zero _)
 | succ n0 =>
  refine AC <| AC ?_
  refine rn ⟨[(1, tO (lst 3 AG.c types)), (3, tP 3 0), (5, tP 5 0), (6, tP 6 0), (9, tI v9), (18, tB (decide ((v9 : Int) < (b.Parts.length : Int))))], [(3, .cells (Ag b) 42), (5, .cells (AR.c p) 25), (6, .cells [.i 0, .i 0] 52)]⟩ ?_
  refine Ae _ rfl (fun h1 => ?_) (fun h1 => ?_)
  ·have g1 := oT h1
   refine Ak <| AJ ?_
   refine AC <| Af ?_
   refine AC <| AC ?_
   refine dw [] [] [0 <= (v9 : Int) /\ (v9 : Int) < ((b.Parts.length : Nat) : Int)] ⟨[(1, tO (lst 3 AG.c types)), (3, tP 3 0), (5, tP 5 0), (6, tP 6 0), (9, tI v9), (29, tB (Z0I b v9 p))], [(3, .cells (Ag b) 42), (5, .cells (AR.c p) 25), (6, .cells [.i 0, .i 0] 52)]⟩ .nil (.cons au0 .nil) <| AJ ?_
   refine Ae _ rfl (fun h2 => ?_) (fun h2 => ?_)
   ·refine BZ <| BI ?_
    refine Ba <| AJ ?_
    refine rg ⟨[(1, tO (lst 3 AG.c types)), (3, tP 3 0), (5, tP 5 0), (6, tP 6 0), (9, tI (W64 (v9 + 1)))], [(3, .cells (Ag b) 42), (5, .cells (AR.c p) 25), (6, .cells [.i 0, .i 0] 52)]⟩ ?_
    (try rw [(show W64 (v9 + 1) = v9 + 1 from BP (by omega) au9)])
    refine AJ ?_
    refine ⟨(n0, v9 + 1), ⟨?_, ?_, (by rw [<- hF0]; simp only [EU, h1, h2, cond_true, cond_false])⟩, Nat.lt_succ_self _, A6 kr⟩
    ·show ((b.Parts.length : Int) - (v9 + 1)).toNat < n0; omega
    ·exact ⟨ax0, ax0⟩
   ·refine Ak <| AJ <| AC ?_
    refine rc [(38, E9 types (b.Parts.getD v9.toNat default).Type')] [0 <= (v9 : Int) /\ (v9 : Int) < ((b.Parts.length : Nat) : Int), Al (E9 types (b.Parts.getD v9.toNat default).Type').2.1] ⟨[(3, tP 3 0), (5, tP 5 0), (6, tP 6 0), (9, tI v9), (10, tP 10 0), (11, tB (BJ types (b.Parts.getD v9.toNat default).Type').2)], [(3, .cells (Ag b) 42), (5, .cells (AR.c p) 25), (6, .cells [.i 0, .i 0] 52), (10, .cells (AG.c (Z0J types b v9)) 114)]⟩ (.cons (Jc types (b.Parts.getD v9.toNat default).Type' au18) .nil) (.cons au0 (.cons rfl .nil)) <| AJ <| AC ?_
    refine rc [(45, HQ (Z0J types b v9) p.Pad)] [Al (HQ (Z0J types b v9) p.Pad).2.1] ⟨[(3, tP 3 0), (6, tP 6 0), (9, tI v9), (11, tB (BJ types (b.Parts.getD v9.toNat default).Type').2), (12, tP 12 0), (13, tB (DX (Z0J types b v9) p.Pad).2)], [(3, .cells (Ag b) 42), (6, .cells [.i 0, .i 0] 52), (12, .cells (Ap.c (DX (Z0J types b v9) p.Pad).1) 118)]⟩ (.cons (Rk (Z0J types b v9) p.Pad au18) .nil) (.cons rfl .nil) <| AJ ?_
    refine AC <| AC ?_
    refine rc [] [((Z0K types b v9) = false) -> ((Z0K types b v9) = false), (Z0K types b v9) = false -> ((Z0K types b v9) = false)] ⟨[(3, tP 3 0), (6, tP 6 0), (9, tI v9), (12, tP 12 0), (53, tB (Z0L types b v9 p))], [(3, .cells (Ag b) 42), (6, .cells [.i 0, .i 0] 52), (12, .cells (Ap.c (DX (Z0J types b v9) p.Pad).1) 118)]⟩ .nil (.cons id (.cons id .nil)) <| AJ ?_
    refine Ae _ rfl (fun h3 => ?_) (fun h3 => ?_)
    ·refine AC <| rn ⟨[(6, tP 6 0), (7, tI 0), (8, tB false)], [(6, .cells [.i 0, .i 0] 52)]⟩ ?_
     refine Aj <| BO ?_
     refine CD <| BO ?_
     refine BO <| CD <| BO ?_
     exact ⟨_, Cv.refl _, .inl rfl, .tup [.agg [.i 0, .i 0], .one (.i 0), .one (.b false)], by kernel_rfl, Ao (by rw [<- hF0]; first | (simp only [EU, h1, h2, h3, cond_true, cond_false] <;> rfl))⟩
    ·refine Ak <| AJ <| AC ?_
     refine dw [] [(60, EG (b.Parts.getD v9.toNat default)), (63, Br (Z0M b v9) (Z0N types b v9 p)), (70, Fl b (b.Parts.getD v9.toNat default))] [0 <= (v9 : Int) /\ (v9 : Int) < ((b.Parts.length : Nat) : Int), Al (EG (b.Parts.getD v9.toNat default)).2.1, Al (Br (Z0M b v9) (Z0N types b v9 p)).2.1, 0 <= (v9 : Int) /\ (v9 : Int) < ((b.Parts.length : Nat) : Int), Al (Fl b (b.Parts.getD v9.toNat default)).2.1] ⟨[(6, tP 6 0), (7, tI (Ch b (b.Parts.getD v9.toNat default))), (8, tB true)], [(6, .cells (AE.c (Z0O b v9 types p)) 52)]⟩ (.cons (J8 (b.Parts.getD v9.toNat default)) (.cons (DT (Z0M b v9) (Z0N types b v9 p)) (.cons (ND b (b.Parts.getD v9.toNat default)) .nil))) (.cons au0 (.cons rfl (.cons rfl (.cons au0 (.cons rfl .nil))))) <| AJ ?_
     refine Aj <| CD ?_
     refine BO <| BO ?_
     refine CD <| BO ?_
     exact ⟨_, Cv.refl _, .inl rfl, .tup [.agg (AE.c (Z0O b v9 types p)), .one (.i (Ch b (b.Parts.getD v9.toNat default))), .one (.b true)], by kernel_rfl, Ao (by rw [<- hF0]; first | (simp only [EU, h1, h2, h3, cond_true, cond_false] <;> rfl))⟩
  ·have g1 := oF h1
   refine BZ <| BI ?_
   refine BI <| Ba ?_
   refine AJ <| AC ?_
   refine rn ⟨[(6, tP 6 0), (7, tI 0), (8, tB false)], [(6, .cells [.i 0, .i 0] 52)]⟩ <| Aj ?_
   exact ⟨_, Cv.refl _, .inl rfl, .tup [.agg [.i 0, .i 0], .one (.i 0), .one (.b false)], by kernel_rfl, Ao (by rw [<- hF0]; first | (simp only [EU, h1, cond_true, cond_false] <;> rfl))⟩
theorem Up (b : AF) (types : (List AG)) (p : AR) (hp : (b.Parts.length : Int) <= 1000000) (ht : B1 types) : A1 Try.prog (Lm b types p).1 (Lm b types p).2.1 (Lm b types p).2.2 := Aa (fun _ _ => kr) fun _ => pAt18 b types p hp ht
def Z0P (b : AF) : Tv := .av (.one (lst 7 AD.c (BF b)))
def Z0Q : Blk := .row 9 ([] : List Ar).length (AY Ar.c ([] : List Ar)) 63
def Z0R : Tv := .av (.one (.own 100000 9 ([] : List Ar).length))
def Z0S (types : (List AG)) (b : AF) (k : Int) : AG := (BJ types ((BF b).getD k.toNat default).Type').1
def Z0T (types : (List AG)) (b : AF) (k : Int) : Tv := tB (BJ types ((BF b).getD k.toNat default).Type').2
def Z0U (types : (List AG)) (b : AF) (k : Int) : Blk := .cells (AG.c (Z0S types b k)) 114
def Z0V (types : (List AG)) (b : AF) (k : Int) (i : Int) : Ap := (Z0S types b k).Pads.getD i.toNat default
def Z0W (b : AF) (k : Int) (types : (List AG)) (i : Int) : Ar := Ig b ((BF b).getD k.toNat default) (Z0V types b k i)
def Z0X (out' : List Ar) (b : AF) (k : Int) (types : (List AG)) (i : Int) : Blk := .row 9 (out' ++ [Z0W b k types i]).length (AY Ar.c (out' ++ [Z0W b k types i])) 63
def Dj (b : AF) (types : (List AG)) (out : List Ar) (k : Int) (K0 : List Ar -> Int -> (List Ar)) : Nat -> List Ar -> Int -> (List Ar)
 | 0, _, _ => default
 | n1 + 1, out', i => bif bif (BJ types ((BF b).getD k.toNat default).Type').2 then decide ((i : Int) < ((Z0S types b k).Pads.length : Int)) else false then ((Dj b types out k K0 n1) (out' ++ [Z0W b k types i]) (i + 1)) else (K0 out' (k + 1))
def Cj (b : AF) (types : (List AG)) : Nat -> List Ar -> Int -> (List Ar)
 | 0, _, _ => default
 | n0 + 1, out, k => bif decide ((k : Int) < ((BF b).length : Int)) then (Dj b types out k (Cj b types n0) ((((Z0S types b k).Pads.length : Int) - 0).toNat + 1) out 0) else out
def ES (b : AF) (types : (List AG)) : (List Ar) := Cj b types ((((BF b).length : Int) - 0).toNat + 1) ([] : List Ar) 0
def HN (b : AF) (types : (List AG)) : FuncId × List Av × Ef := (18, [.agg (Ag b), .one (lst 3 AG.c types)], .val [] (.av (.one (lst 9 Ar.c (ES b types)))))
theorem TK (b : AF) (types : (List AG)) (hp : b.Parts.length < 20) (ht : B1 types) (hn : (b.Nets.length : Int) <= 1000000) (hq : ∀ n ∈ b.Nets, (n.Pins.length : Int) <= 1000000) : Bo Try.prog 18 (HN b types).2.1 (tO (lst 9 Ar.c (ES b types))) := by
 refine AX Try.func18 rfl kr kr fun W0 M0 => ?_
 have ht1 := ht.1
 have hl := M8 b
 refine AC <| rn ⟨[(1, tO (lst 3 AG.c types)), (2, tP 2 0)], [(2, .cells (Ag b) 42)]⟩ <| AC ?_
 refine rn ⟨[(1, tO (lst 3 AG.c types)), (2, tP 2 0), (5, .av (.one vN))], [(2, .cells (Ag b) 42)]⟩ <| AC ?_
 refine rc [(12, GH b)] [Al (GH b).2.1] ⟨[(1, tO (lst 3 AG.c types)), (2, tP 2 0), (5, .av (.one vN)), (6, Z0P b)], [(2, .cells (Ag b) 42)]⟩ (.cons (QW b au18) .nil) (.cons rfl .nil) <| AJ ?_
 refine AC <| AC ?_
 refine rn ⟨[(1, tO (lst 3 AG.c types)), (2, tP 2 0), (5, .av (.one vN)), (6, Z0P b), (7, tI 0)], [(2, .cells (Ag b) 42)]⟩ <| Af ?_
 refine Bl (Cv.trans (CH (⟨[(1, tO (lst 3 AG.c types)), (2, tP 2 0), (5, tO (.own 100000 9 0)), (6, Z0P b), (7, tI 0)], [(100000, .row 9 0 (fun _ _ => default) 63), (2, .cells (Ag b) 42)]⟩) 100000 9 (fun _ _ => default) 63 [(5, [0])] [] (K := []) (fun k x h => by cases h) rfl kr kr) (Cv.trans (BR (⟨[(1, tO (lst 3 AG.c types)), (2, tP 2 0), (5, Z0R), (6, Z0P b), (7, tI 0)], [(100000, Z0Q), (2, .cells (Ag b) 42)]⟩) (.cons ⟨rfl, .refl _⟩ (.cons ⟨rfl, .refl _⟩ (.cons ⟨rfl, .av (.one (.own _ _ au2))⟩ lr))) (.cons ⟨rfl, Aw 63 (CF 9 (fun _ _ => default) Ar.c)⟩ lr)) (Cv.trans (BA [1, 2, 5, 6, 7] [2, 100000] (⟨[(1, tO (lst 3 AG.c types)), (2, tP 2 0), (5, Z0R), (6, Z0P b), (7, tI 0)], [(2, .cells (Ag b) 42), (100000, Z0Q)]⟩) kr) (Cv.refl _)))) ?_
 refine BL (ι := Nat × List Ar × Int) (fun x => ⟨[(1, tO (lst 3 AG.c types)), (2, tP 2 0), (5, tO (.own 100000 9 x.2.1.length)), (6, Z0P b), (7, tI x.2.2)], [(2, .cells (Ag b) 42), (100000, .row 9 x.2.1.length (AY Ar.c x.2.1) 63)]⟩) (fun x => (((BF b).length : Int) - x.2.2).toNat < x.1 /\ ((x.2.1.length : Int) <= 1000000 * x.2.2 /\ 0 <= x.2.2 /\ (x.2.2 <= ((BF b).length : Int) \/ x.2.2 = 0)) /\ Cj b types x.1 x.2.1 x.2.2 = ES b types) (fun x => x.1) ?_ ((((BF b).length : Int) - 0).toNat + 1, ([] : List Ar), 0) ⟨Nat.lt_succ_self _, ⟨ax0, ax0, ax0⟩, (by simp only [ES, cond_true, cond_false])⟩
 rintro ⟨n0, out, k⟩ ⟨hn, hinv, hF⟩
 have hm0 := hn; have hinv0 := hinv; have hF0 := hF; try dsimp only at hm0 hinv0 hF0
 clear hn hinv hF
 cases n0 with
 | zero => exact absurd hm0 (Nat.not_lt_zero _)
 | succ n0 =>
  refine AC <| AC ?_
  refine rn ⟨[(1, tO (lst 3 AG.c types)), (2, tP 2 0), (5, tO (.own 100000 9 out.length)), (6, Z0P b), (7, tI k), (16, tB (decide ((k : Int) < ((BF b).length : Int))))], [(2, .cells (Ag b) 42), (100000, .row 9 out.length (AY Ar.c out) 63)]⟩ ?_
  refine Ae _ rfl (fun h1 => ?_) (fun h1 => ?_)
  ·have g1 := oT h1
   refine Ak <| AJ ?_
   refine AC <| Af <| AC ?_
   refine rc [(26, E9 types ((BF b).getD k.toNat default).Type')] [0 <= (k : Int) /\ (k : Int) < (((BF b).length : Nat) : Int), Al (E9 types ((BF b).getD k.toNat default).Type').2.1] ⟨[(1, tO (lst 3 AG.c types)), (2, tP 2 0), (5, tO (.own 100000 9 out.length)), (6, Z0P b), (7, tI k), (8, tP 8 0), (9, Z0T types b k)], [(2, .cells (Ag b) 42), (8, Z0U types b k), (100000, .row 9 out.length (AY Ar.c out) 63)]⟩ (.cons (Jc types ((BF b).getD k.toNat default).Type' au18) .nil) (.cons au0 (.cons rfl .nil)) <| AJ <| AC ?_
   refine rn ⟨[(1, tO (lst 3 AG.c types)), (2, tP 2 0), (5, tO (.own 100000 9 out.length)), (6, Z0P b), (7, tI k), (8, tP 8 0), (9, Z0T types b k), (10, tI 0)], [(2, .cells (Ag b) 42), (8, Z0U types b k), (100000, .row 9 out.length (AY Ar.c out) 63)]⟩ <| Af ?_
   refine BL (ι := Nat × List Ar × Int) (fun x => ⟨[(1, tO (lst 3 AG.c types)), (2, tP 2 0), (5, tO (.own 100000 9 x.2.1.length)), (6, Z0P b), (7, tI k), (8, tP 8 0), (9, Z0T types b k), (10, tI x.2.2)], [(2, .cells (Ag b) 42), (8, Z0U types b k), (100000, .row 9 x.2.1.length (AY Ar.c x.2.1) 63)]⟩) (fun x => (((Z0S types b k).Pads.length : Int) - x.2.2).toNat < x.1 /\ (0 <= x.2.2 /\ x.2.2 <= ((Z0S types b k).Pads.length : Int) /\ (x.2.1.length : Int) <= 1000000 * k + x.2.2 /\ 0 <= x.2.2) /\ Dj b types out k (Cj b types n0) x.1 x.2.1 x.2.2 = ES b types) (fun x => x.1) ?_ ((((Z0S types b k).Pads.length : Int) - 0).toNat + 1, out, 0) ⟨Nat.lt_succ_self _, ⟨ax0, ax0, ax0, ax0⟩, (by rw [<- hF0]; simp only [Cj, h1, cond_true, cond_false])⟩
   rintro ⟨n1, out', i⟩ ⟨hn, hinv, hF⟩
   have hm1 := hn; have hinv1 := hinv; have hF1 := hF; try dsimp only at hm1 hinv1 hF1
   clear hn hinv hF
   cases n1 with
   | zero => exact absurd hm1 (Nat.not_lt_zero _)
   | succ n1 =>
    have hb1 : ((Z0S types b k).Pads.length : Int) <= 1000000 := LQ ht ((BF b).getD k.toNat default).Type'
    refine AC <| AC ?_
    refine rc [] [((BJ types ((BF b).getD k.toNat default).Type').2 = true) -> ((BJ types ((BF b).getD k.toNat default).Type').2 = true), ((BJ types ((BF b).getD k.toNat default).Type').2 = true) -> ((BJ types ((BF b).getD k.toNat default).Type').2 = true), ((BJ types ((BF b).getD k.toNat default).Type').2 = true) -> ((BJ types ((BF b).getD k.toNat default).Type').2 = true), ((BJ types ((BF b).getD k.toNat default).Type').2 = true) -> ((BJ types ((BF b).getD k.toNat default).Type').2 = true), (BJ types ((BF b).getD k.toNat default).Type').2 = true -> ((BJ types ((BF b).getD k.toNat default).Type').2 = true)] ⟨[(1, tO (lst 3 AG.c types)), (2, tP 2 0), (5, tO (.own 100000 9 out'.length)), (6, Z0P b), (7, tI k), (8, tP 8 0), (9, Z0T types b k), (10, tI i), (36, tB (bif (BJ types ((BF b).getD k.toNat default).Type').2 then decide ((i : Int) < ((Z0S types b k).Pads.length : Int)) else false))], [(2, .cells (Ag b) 42), (8, Z0U types b k), (100000, .row 9 out'.length (AY Ar.c out') 63)]⟩ .nil (.cons id (.cons id (.cons id (.cons id (.cons id .nil))))) <| AJ ?_
    refine Ae _ rfl (fun h2 => ?_) (fun h2 => ?_)
    ·have g2 := Sj h2
     refine Ak <| AJ ?_
     refine AC <| Af ?_
     refine dw [] [(50, HL b ((BF b).getD k.toNat default) (Z0V types b k i))] [0 <= (k : Int) /\ (k : Int) < (((BF b).length : Nat) : Int), 0 <= (i : Int) /\ (i : Int) < (((Z0S types b k).Pads.length : Nat) : Int), Al (HL b ((BF b).getD k.toNat default) (Z0V types b k i)).2.1, out'.length = out'.length, out'.length + 1 <= maxLen, (out'.length + 1) * 104 <= 140737488355328] ⟨[(1, tO (lst 3 AG.c types)), (2, tP 2 0), (5, tO (.own 52 9 (out'.length + 1))), (6, Z0P b), (7, tI k), (8, tP 8 0), (9, Z0T types b k), (10, tI i)], [(2, .cells (Ag b) 42), (8, Z0U types b k), (52, .row 9 (out'.length + 1) (fun i_ j_ => if i_ < out'.length then (AY Ar.c out') i_ j_ else (A0 9 1 [.i (Z0W b k types i).Id, .s (Z0W b k types i).Pad, .i (Z0W b k types i).Kind, .s (Z0W b k types i).Net, .i (Z0W b k types i).From, .i (Z0W b k types i).To, .i (Z0W b k types i).Shape.Kind, lst 7 AH.c (Z0W b k types i).Shape.Edges, .i (Z0W b k types i).Shape.R]) (i_ - out'.length) j_) 63)]⟩ (.cons (Re b ((BF b).getD k.toNat default) (Z0V types b k i) au18 au18 au18) .nil) (.cons au0 (.cons au0 (.cons rfl (.cons rfl (.cons au15 (.cons au15 .nil)))))) <| Bq <| AJ ?_
     refine Bl (Cv.trans (BR (⟨[(1, tO (lst 3 AG.c types)), (2, tP 2 0), (5, tO (.own 52 9 (out' ++ [Z0W b k types i]).length)), (6, Z0P b), (7, tI k), (8, tP 8 0), (9, Z0T types b k), (10, tI i)], [(2, .cells (Ag b) 42), (8, Z0U types b k), (52, Z0X out' b k types i)]⟩) (.cons ⟨rfl, .refl _⟩ (.cons ⟨rfl, .refl _⟩ (.cons ⟨rfl, .av (.one (.own _ _ au2))⟩ lr))) (.cons ⟨rfl, .refl _⟩ (.cons ⟨rfl, .refl _⟩ (.cons ⟨rfl, Aw 63 (BV (BK 9 Ar.c out') (A2 (c := Ar.c) (xs := ([Z0W b k types i] : List Ar)) rfl kr))⟩ .nil)))) (Cv.refl _)) ?_
     refine rg ⟨[(1, tO (lst 3 AG.c types)), (2, tP 2 0), (5, tO (.own 52 9 (out' ++ [Z0W b k types i]).length)), (6, Z0P b), (7, tI k), (8, tP 8 0), (9, Z0T types b k), (10, tI (W64 (i + 1)))], [(2, .cells (Ag b) 42), (8, Z0U types b k), (52, Z0X out' b k types i)]⟩ ?_
     (try rw [(show W64 (i + 1) = i + 1 from BP (by omega) (by omega))])
     refine AJ ?_
     refine ⟨(n1, out' ++ [Z0W b k types i], i + 1), ⟨?_, ?_, (by rw [<- hF1]; simp only [Dj, h2, cond_true, cond_false])⟩, Nat.lt_succ_self _, Cv.trans (Be (⟨[(1, tO (lst 3 AG.c types)), (2, tP 2 0), (5, tO (.own 100000 9 (out' ++ [Z0W b k types i]).length)), (6, Z0P b), (7, tI k), (8, tP 8 0), (9, Z0T types b k), (10, tI (i + 1))], [(2, .cells (Ag b) 42), (8, Z0U types b k), (100000, Z0X out' b k types i)]⟩) 52 100000 (K := []) (fun k x h => by cases h) rfl rfl kr kr) (A6 kr)⟩
     ·show (((Z0S types b k).Pads.length : Int) - (i + 1)).toNat < n1; omega
     ·exact ⟨ax0, ax0, ax0, ax0⟩
    ·refine BZ <| BI ?_
     refine BI <| Ba ?_
     refine Bq <| AJ ?_
     refine rg ⟨[(1, tO (lst 3 AG.c types)), (2, tP 2 0), (5, tO (.own 100000 9 out'.length)), (6, Z0P b), (7, tI (W64 (k + 1)))], [(2, .cells (Ag b) 42), (100000, .row 9 out'.length (AY Ar.c out') 63)]⟩ ?_
     (try rw [(show W64 (k + 1) = k + 1 from BP (by omega) au9)])
     refine AJ ?_
     refine ⟨(n0, out', k + 1), ⟨?_, ?_, (by rw [<- hF1]; simp only [Dj, h2, cond_true, cond_false])⟩, Nat.lt_succ_self _, A6 kr⟩
     ·show (((BF b).length : Int) - (k + 1)).toNat < n0; omega
     ·exact ⟨ax0, ax0, ax0⟩
  ·have g1 := oF h1
   refine BZ <| BI ?_
   refine BI <| Ba ?_
   refine AJ <| AC ?_
   refine rn ⟨[(4, tO (.own 100000 9 out.length))], [(100000, .row 9 out.length (AY Ar.c out) 63)]⟩ <| Aj ?_
   exact ⟨_, Cv.trans (Cu (⟨[(4, tO (lst 9 Ar.c out))], []⟩) 100000 9 out.length (AY Ar.c out) 63 (K := []) (fun k x h => by cases h) kr kr (.cons ⟨rfl, rfl⟩ .nil) kr) (Cv.refl _), .inl rfl, tO (lst 9 Ar.c out), by kernel_rfl, Ao (by rw [<- hF0]; first | (simp only [Cj, h1, cond_true, cond_false] <;> rfl))⟩
theorem Rh (b : AF) (types : (List AG)) (hp : b.Parts.length < 20) (ht : B1 types) (hn : (b.Nets.length : Int) <= 1000000) (hq : ∀ n ∈ b.Nets, (n.Pins.length : Int) <= 1000000) : A1 Try.prog (HN b types).1 (HN b types).2.1 (HN b types).2.2 := Aa (fun _ _ => kr) fun _ => TK b types hp ht hn hq
end
section
open Go.RowKit
theorem or3_f {p q r : Prop} [Decidable p] [Decidable q] [Decidable r] (h : (bif bif !decide p then true else !decide q then true else !decide r) = false) : p /\ q /\ r := by
 by_cases hp : p <;> by_cases hq : q <;> by_cases hr : r <;> simp_all
def EJ (a : AQ) (b : AQ) : Nat -> Int -> Bool
 | 0, _ => default
 | n0 + 1, k => bif decide ((k : Int) < (a.Edges.length : Int)) then (bif !(decide ((a.Edges.getD k.toNat default).Kind = (b.Edges.getD k.toNat default).Kind) && (decide ((a.Edges.getD k.toNat default).A.X = (b.Edges.getD k.toNat default).A.X) && (decide ((a.Edges.getD k.toNat default).A.Y = (b.Edges.getD k.toNat default).A.Y) && (decide ((a.Edges.getD k.toNat default).B.X = (b.Edges.getD k.toNat default).B.X) && (decide ((a.Edges.getD k.toNat default).B.Y = (b.Edges.getD k.toNat default).B.Y) && (decide ((a.Edges.getD k.toNat default).C.X = (b.Edges.getD k.toNat default).C.X) && (decide ((a.Edges.getD k.toNat default).C.Y = (b.Edges.getD k.toNat default).C.Y) && true))))))) then false else ((EJ a b n0) (k + 1))) else true
def G6 (a : AQ) (b : AQ) : Bool := bif bif bif !decide ((a.Kind : Int) = b.Kind) then true else !decide ((a.R : Int) = b.R) then true else !decide (((a.Edges.length : Int) : Int) = (b.Edges.length : Int)) then false else (EJ a b (((a.Edges.length : Int) - 0).toNat + 1) 0)
def I2 (a : AQ) (b : AQ) : FuncId × List Av × Ef := (45, [.agg (AQ.c a), .agg (AQ.c b)], .val [] (.av (.one (.b (G6 a b)))))
theorem UV (a : AQ) (b : AQ) (h0 : (a.Edges.length : Int) <= 1000000) (h1 : (b.Edges.length : Int) <= 1000000) : Bo Try.prog 45 (I2 a b).2.1 (tO (.b (G6 a b))) := by
 refine AX Try.func45 rfl kr kr fun W0 M0 => ?_
 refine AC <| rn ⟨[(2, tP 2 0), (3, tP 3 0)], [(2, .cells (AQ.c a) 29), (3, .cells (AQ.c b) 29)]⟩ ?_
 refine AC <| AC ?_
 refine rc [] [((!decide ((a.Kind : Int) = b.Kind)) = false) -> ((!decide ((a.Kind : Int) = b.Kind)) = false), ((!decide ((a.Kind : Int) = b.Kind)) = false) -> ((!decide ((a.Kind : Int) = b.Kind)) = false), ((!decide ((a.Kind : Int) = b.Kind)) = false) -> ((!decide ((a.Kind : Int) = b.Kind)) = false), ((!decide ((a.Kind : Int) = b.Kind)) = false) -> ((!decide ((a.Kind : Int) = b.Kind)) = false), (!decide ((a.Kind : Int) = b.Kind)) = false -> ((!decide ((a.Kind : Int) = b.Kind)) = false), ((bif !decide ((a.Kind : Int) = b.Kind) then true else !decide ((a.R : Int) = b.R)) = false) -> ((bif !decide ((a.Kind : Int) = b.Kind) then true else !decide ((a.R : Int) = b.R)) = false), ((bif !decide ((a.Kind : Int) = b.Kind) then true else !decide ((a.R : Int) = b.R)) = false) -> ((bif !decide ((a.Kind : Int) = b.Kind) then true else !decide ((a.R : Int) = b.R)) = false), ((bif !decide ((a.Kind : Int) = b.Kind) then true else !decide ((a.R : Int) = b.R)) = false) -> ((bif !decide ((a.Kind : Int) = b.Kind) then true else !decide ((a.R : Int) = b.R)) = false), ((bif !decide ((a.Kind : Int) = b.Kind) then true else !decide ((a.R : Int) = b.R)) = false) -> ((bif !decide ((a.Kind : Int) = b.Kind) then true else !decide ((a.R : Int) = b.R)) = false), ((bif !decide ((a.Kind : Int) = b.Kind) then true else !decide ((a.R : Int) = b.R)) = false) -> ((bif !decide ((a.Kind : Int) = b.Kind) then true else !decide ((a.R : Int) = b.R)) = false), ((bif !decide ((a.Kind : Int) = b.Kind) then true else !decide ((a.R : Int) = b.R)) = false) -> ((bif !decide ((a.Kind : Int) = b.Kind) then true else !decide ((a.R : Int) = b.R)) = false), (bif !decide ((a.Kind : Int) = b.Kind) then true else !decide ((a.R : Int) = b.R)) = false -> ((bif !decide ((a.Kind : Int) = b.Kind) then true else !decide ((a.R : Int) = b.R)) = false)] ⟨[(2, tP 2 0), (3, tP 3 0), (26, tB (bif bif !decide ((a.Kind : Int) = b.Kind) then true else !decide ((a.R : Int) = b.R) then true else !decide (((a.Edges.length : Int) : Int) = (b.Edges.length : Int))))], [(2, .cells (AQ.c a) 29), (3, .cells (AQ.c b) 29)]⟩ .nil (.cons id (.cons id (.cons id (.cons id (.cons id (.cons id (.cons id (.cons id (.cons id (.cons id (.cons id (.cons id .nil)))))))))))) <| AJ ?_
 refine Ae _ rfl (fun h1 => ?_) (fun h1 => ?_)
 ·refine AC <| rn ⟨[(4, tB false)], []⟩ ?_
  refine Aj <| BO ?_
  exact ⟨_, Cv.refl _, .inl rfl, tO (.b false), by kernel_rfl, Ao (by first | (simp only [G6, h1, cond_true, cond_false] <;> rfl))⟩
 ·refine Ak <| AJ ?_
  refine AC <| AC ?_
  refine rn ⟨[(2, tP 2 0), (3, tP 3 0), (5, tI 0)], [(2, .cells (AQ.c a) 29), (3, .cells (AQ.c b) 29)]⟩ <| Af ?_
  refine BL (ι := Nat × Int) (fun x => ⟨[(2, tP 2 0), (3, tP 3 0), (5, tI x.2)], [(2, .cells (AQ.c a) 29), (3, .cells (AQ.c b) 29)]⟩) (fun x => ((a.Edges.length : Int) - x.2).toNat < x.1 /\ (0 <= x.2 /\ (x.2 <= (a.Edges.length : Int) \/ x.2 = 0)) /\ EJ a b x.1 x.2 = G6 a b) (fun x => x.1) ?_ (((a.Edges.length : Int) - 0).toNat + 1, 0) ⟨Nat.lt_succ_self _, ⟨ax0, ax0⟩, (by simp only [G6, h1, cond_true, cond_false])⟩
  rintro ⟨n0, k⟩ ⟨hn, hinv, hF⟩
  have hm0 := hn; have hinv0 := hinv; have hF0 := hF; try dsimp only at hm0 hinv0 hF0
  clear hn hinv hF
  cases n0 with
  | zero => exact absurd hm0 (Nat.not_lt_zero _)
  | succ n0 =>
   have hE := (or3_f h1).2.2
   refine AC <| AC ?_
   refine rn ⟨[(2, tP 2 0), (3, tP 3 0), (5, tI k), (31, tB (decide ((k : Int) < (a.Edges.length : Int))))], [(2, .cells (AQ.c a) 29), (3, .cells (AQ.c b) 29)]⟩ ?_
   refine Ae _ rfl (fun h2 => ?_) (fun h2 => ?_)
   ·have g2 := oT h2
    refine Ak <| AJ ?_
    refine AC <| Af <| AC ?_
    refine dw [] [] [0 <= (k : Int) /\ (k : Int) < ((a.Edges.length : Nat) : Int), 0 <= (k : Int) /\ (k : Int) < ((b.Edges.length : Nat) : Int)] ⟨[(2, tP 2 0), (3, tP 3 0), (5, tI k), (44, tB (!(decide ((a.Edges.getD k.toNat default).Kind = (b.Edges.getD k.toNat default).Kind) && (decide ((a.Edges.getD k.toNat default).A.X = (b.Edges.getD k.toNat default).A.X) && (decide ((a.Edges.getD k.toNat default).A.Y = (b.Edges.getD k.toNat default).A.Y) && (decide ((a.Edges.getD k.toNat default).B.X = (b.Edges.getD k.toNat default).B.X) && (decide ((a.Edges.getD k.toNat default).B.Y = (b.Edges.getD k.toNat default).B.Y) && (decide ((a.Edges.getD k.toNat default).C.X = (b.Edges.getD k.toNat default).C.X) && (decide ((a.Edges.getD k.toNat default).C.Y = (b.Edges.getD k.toNat default).C.Y) && true)))))))))], [(2, .cells (AQ.c a) 29), (3, .cells (AQ.c b) 29)]⟩ .nil (.cons au0 (.cons au0 .nil)) <| AJ ?_
    refine Ae (!(decide ((a.Edges.getD k.toNat default).Kind = (b.Edges.getD k.toNat default).Kind) && (decide ((a.Edges.getD k.toNat default).A.X = (b.Edges.getD k.toNat default).A.X) && (decide ((a.Edges.getD k.toNat default).A.Y = (b.Edges.getD k.toNat default).A.Y) && (decide ((a.Edges.getD k.toNat default).B.X = (b.Edges.getD k.toNat default).B.X) && (decide ((a.Edges.getD k.toNat default).B.Y = (b.Edges.getD k.toNat default).B.Y) && (decide ((a.Edges.getD k.toNat default).C.X = (b.Edges.getD k.toNat default).C.X) && (decide ((a.Edges.getD k.toNat default).C.Y = (b.Edges.getD k.toNat default).C.Y) && true)))))))) kr (fun h3 => ?_) (fun h3 => ?_)
    ·refine AC <| rn ⟨[(4, tB false)], []⟩ ?_
     refine Aj <| CD ?_
     refine BO <| BO ?_
     refine CD <| BO ?_
     exact ⟨_, Cv.refl _, .inl rfl, tO (.b false), by kernel_rfl, Ao (by rw [<- hF0]; first | (simp only [EJ, h2, h3, cond_true, cond_false] <;> rfl))⟩
    ·refine Ak <| Bq <| AJ ?_
     refine rg ⟨[(2, tP 2 0), (3, tP 3 0), (5, tI (W64 (k + 1)))], [(2, .cells (AQ.c a) 29), (3, .cells (AQ.c b) 29)]⟩ ?_
     (try rw [(show W64 (k + 1) = k + 1 from BP (by omega) au9)])
     refine AJ ?_
     refine ⟨(n0, k + 1), ⟨?_, ?_, (by rw [<- hF0]; simp only [EJ, h2, h3, cond_true, cond_false])⟩, Nat.lt_succ_self _, A6 kr⟩
     ·show ((a.Edges.length : Int) - (k + 1)).toNat < n0; omega
     ·exact ⟨ax0, ax0⟩
   ·have g2 := oF h2
    refine BZ <| BI ?_
    refine BI <| Ba ?_
    refine AJ <| AC ?_
    refine rn ⟨[(4, tB true)], []⟩ <| Aj ?_
    exact ⟨_, Cv.refl _, .inl rfl, tO (.b true), by kernel_rfl, Ao (by rw [<- hF0]; first | (simp only [EJ, h2, cond_true, cond_false] <;> rfl))⟩
theorem TV (a : AQ) (b : AQ) (h0 : (a.Edges.length : Int) <= 1000000) (h1 : (b.Edges.length : Int) <= 1000000) : A1 Try.prog (I2 a b).1 (I2 a b).2.1 (I2 a b).2.2 := Aa (fun _ _ => kr) fun _ => UV a b h0 h1
def Z0Y (a : (List Ar)) (v5 : Int) : Blk := .cells (Ar.c (a.getD v5.toNat default)) 63
def Z0Z (a : (List Ar)) (v5 : Int) (b : (List Ar)) : Bool := G6 (a.getD v5.toNat default).Shape (b.getD v5.toNat default).Shape
def Di (a : (List Ar)) (b : (List Ar)) : Nat -> Int -> Bool
 | 0, _ => default
 | n0 + 1, v5 => bif decide ((v5 : Int) < (a.length : Int)) then (bif bif bif bif bif bif bif !(Z0Z a v5 b) then true else !decide (((a.getD v5.toNat default).Id : Int) = (b.getD v5.toNat default).Id) then true else !((a.getD v5.toNat default).Pad.toList == (b.getD v5.toNat default).Pad.toList) then true else !decide (((a.getD v5.toNat default).Kind : Int) = (b.getD v5.toNat default).Kind) then true else !((a.getD v5.toNat default).Net.toList == (b.getD v5.toNat default).Net.toList) then true else !decide (((a.getD v5.toNat default).From : Int) = (b.getD v5.toNat default).From) then true else !decide (((a.getD v5.toNat default).To : Int) = (b.getD v5.toNat default).To) then false else ((Di a b n0) (v5 + 1))) else true
def Fp (a : (List Ar)) (b : (List Ar)) : Bool := bif !decide (((a.length : Int) : Int) = (b.length : Int)) then false else (Di a b (((a.length : Int) - 0).toNat + 1) 0)
def HM (a : (List Ar)) (b : (List Ar)) : FuncId × List Av × Ef := (16, [.one (lst 9 Ar.c a), .one (lst 9 Ar.c b)], .val [] (.av (.one (.b (Fp a b)))))
theorem TJ (a : (List Ar)) (b : (List Ar)) (h0 : (a.length : Int) <= 1000000000) (ha : ∀ k, (((a.getD k default).Shape.Edges.length : Int) <= 1000000)) (hbb : ∀ k, (((b.getD k default).Shape.Edges.length : Int) <= 1000000)) : Bo Try.prog 16 (HM a b).2.1 (tO (.b (Fp a b))) := by
 refine AX Try.func16 rfl kr kr fun W0 M0 => ?_
 refine AC <| rn ⟨[(0, tO (lst 9 Ar.c a)), (1, tO (lst 9 Ar.c b))], []⟩ ?_
 refine AC <| AC ?_
 refine rn ⟨[(0, tO (lst 9 Ar.c a)), (1, tO (lst 9 Ar.c b)), (13, tB (!decide (((a.length : Int) : Int) = (b.length : Int))))], []⟩ ?_
 refine Ae _ rfl (fun h1 => ?_) (fun h1 => ?_)
 ·have g1 := Cp h1
  refine AC <| rn ⟨[(4, tB false)], []⟩ ?_
  refine Aj <| BO ?_
  exact ⟨_, Cv.refl _, .inl rfl, tO (.b false), by kernel_rfl, Ao (by first | (simp only [Fp, h1, cond_true, cond_false] <;> rfl))⟩
 ·have g1 := Ck h1
  refine Ak <| AJ ?_
  refine AC <| AC ?_
  refine rn ⟨[(0, tO (lst 9 Ar.c a)), (1, tO (lst 9 Ar.c b)), (5, tI 0)], []⟩ <| Af ?_
  refine BL (ι := Nat × Int) (fun x => ⟨[(0, tO (lst 9 Ar.c a)), (1, tO (lst 9 Ar.c b)), (5, tI x.2)], []⟩) (fun x => ((a.length : Int) - x.2).toNat < x.1 /\ (0 <= x.2 /\ (x.2 <= (a.length : Int) \/ x.2 = 0)) /\ Di a b x.1 x.2 = Fp a b) (fun x => x.1) ?_ (((a.length : Int) - 0).toNat + 1, 0) ⟨Nat.lt_succ_self _, ⟨ax0, ax0⟩, (by simp only [Fp, h1, cond_true, cond_false])⟩
  rintro ⟨n0, v5⟩ ⟨hn, hinv, hF⟩
  have hm0 := hn; have hinv0 := hinv; have hF0 := hF; try dsimp only at hm0 hinv0 hF0
  clear hn hinv hF
  cases n0 with
  | zero => exact absurd hm0 (Nat.not_lt_zero _)
  | succ n0 =>
   refine AC <| AC ?_
   refine rn ⟨[(0, tO (lst 9 Ar.c a)), (1, tO (lst 9 Ar.c b)), (5, tI v5), (17, tB (decide ((v5 : Int) < (a.length : Int))))], []⟩ ?_
   refine Ae _ rfl (fun h2 => ?_) (fun h2 => ?_)
   ·have g2 := oT h2
    refine Ak <| AJ ?_
    refine AC <| Af <| AC ?_
    refine rc [] [0 <= (v5 : Int) /\ (v5 : Int) < ((a.length : Nat) : Int)] ⟨[(0, tO (lst 9 Ar.c a)), (1, tO (lst 9 Ar.c b)), (5, tI v5), (6, tP 6 0)], [(6, Z0Y a v5)]⟩ .nil (.cons au0 .nil) <| AJ <| AC ?_
    refine rc [] [0 <= (v5 : Int) /\ (v5 : Int) < ((b.length : Nat) : Int)] ⟨[(0, tO (lst 9 Ar.c a)), (1, tO (lst 9 Ar.c b)), (5, tI v5), (6, tP 6 0), (7, tP 7 0)], [(6, Z0Y a v5), (7, .cells (Ar.c (b.getD v5.toNat default)) 63)]⟩ .nil (.cons au0 .nil) <| AJ <| AC ?_
    refine rc [(32, I2 (a.getD v5.toNat default).Shape (b.getD v5.toNat default).Shape)] [Al (I2 (a.getD v5.toNat default).Shape (b.getD v5.toNat default).Shape).2.1] ⟨[(0, tO (lst 9 Ar.c a)), (1, tO (lst 9 Ar.c b)), (5, tI v5), (6, tP 6 0), (7, tP 7 0), (8, tB (Z0Z a v5 b))], [(6, Z0Y a v5), (7, .cells (Ar.c (b.getD v5.toNat default)) 63)]⟩ (.cons (TV (a.getD v5.toNat default).Shape (b.getD v5.toNat default).Shape (by first | (exact ha _) | (exact hbb _) | with_reducible assumption | omega | decide | (simp only [List.length_cons, List.length_nil, List.length_append]; omega) | assumption) (by first | (exact ha _) | (exact hbb _) | with_reducible assumption | omega | decide | (simp only [List.length_cons, List.length_nil, List.length_append]; omega) | assumption)) .nil) (.cons rfl .nil) <| AJ <| AC ?_
    refine rc [] [((!(Z0Z a v5 b)) = false) -> ((!(Z0Z a v5 b)) = false), ((!(Z0Z a v5 b)) = false) -> ((!(Z0Z a v5 b)) = false), ((!(Z0Z a v5 b)) = false) -> ((!(Z0Z a v5 b)) = false), ((!(Z0Z a v5 b)) = false) -> ((!(Z0Z a v5 b)) = false), (!(Z0Z a v5 b)) = false -> ((!(Z0Z a v5 b)) = false), ((bif !(Z0Z a v5 b) then true else !decide (((a.getD v5.toNat default).Id : Int) = (b.getD v5.toNat default).Id)) = false) -> ((bif !(Z0Z a v5 b) then true else !decide (((a.getD v5.toNat default).Id : Int) = (b.getD v5.toNat default).Id)) = false), ((bif !(Z0Z a v5 b) then true else !decide (((a.getD v5.toNat default).Id : Int) = (b.getD v5.toNat default).Id)) = false) -> ((bif !(Z0Z a v5 b) then true else !decide (((a.getD v5.toNat default).Id : Int) = (b.getD v5.toNat default).Id)) = false), ((bif !(Z0Z a v5 b) then true else !decide (((a.getD v5.toNat default).Id : Int) = (b.getD v5.toNat default).Id)) = false) -> ((bif !(Z0Z a v5 b) then true else !decide (((a.getD v5.toNat default).Id : Int) = (b.getD v5.toNat default).Id)) = false), ((bif !(Z0Z a v5 b) then true else !decide (((a.getD v5.toNat default).Id : Int) = (b.getD v5.toNat default).Id)) = false) -> ((bif !(Z0Z a v5 b) then true else !decide (((a.getD v5.toNat default).Id : Int) = (b.getD v5.toNat default).Id)) = false), (bif !(Z0Z a v5 b) then true else !decide (((a.getD v5.toNat default).Id : Int) = (b.getD v5.toNat default).Id)) = false -> ((bif !(Z0Z a v5 b) then true else !decide (((a.getD v5.toNat default).Id : Int) = (b.getD v5.toNat default).Id)) = false), ((bif bif !(Z0Z a v5 b) then true else !decide (((a.getD v5.toNat default).Id : Int) = (b.getD v5.toNat default).Id) then true else !((a.getD v5.toNat default).Pad.toList == (b.getD v5.toNat default).Pad.toList)) = false) -> ((bif bif !(Z0Z a v5 b) then true else !decide (((a.getD v5.toNat default).Id : Int) = (b.getD v5.toNat default).Id) then true else !((a.getD v5.toNat default).Pad.toList == (b.getD v5.toNat default).Pad.toList)) = false), ((bif bif !(Z0Z a v5 b) then true else !decide (((a.getD v5.toNat default).Id : Int) = (b.getD v5.toNat default).Id) then true else !((a.getD v5.toNat default).Pad.toList == (b.getD v5.toNat default).Pad.toList)) = false) -> ((bif bif !(Z0Z a v5 b) then true else !decide (((a.getD v5.toNat default).Id : Int) = (b.getD v5.toNat default).Id) then true else !((a.getD v5.toNat default).Pad.toList == (b.getD v5.toNat default).Pad.toList)) = false), ((bif bif !(Z0Z a v5 b) then true else !decide (((a.getD v5.toNat default).Id : Int) = (b.getD v5.toNat default).Id) then true else !((a.getD v5.toNat default).Pad.toList == (b.getD v5.toNat default).Pad.toList)) = false) -> ((bif bif !(Z0Z a v5 b) then true else !decide (((a.getD v5.toNat default).Id : Int) = (b.getD v5.toNat default).Id) then true else !((a.getD v5.toNat default).Pad.toList == (b.getD v5.toNat default).Pad.toList)) = false), ((bif bif !(Z0Z a v5 b) then true else !decide (((a.getD v5.toNat default).Id : Int) = (b.getD v5.toNat default).Id) then true else !((a.getD v5.toNat default).Pad.toList == (b.getD v5.toNat default).Pad.toList)) = false) -> ((bif bif !(Z0Z a v5 b) then true else !decide (((a.getD v5.toNat default).Id : Int) = (b.getD v5.toNat default).Id) then true else !((a.getD v5.toNat default).Pad.toList == (b.getD v5.toNat default).Pad.toList)) = false), (bif bif !(Z0Z a v5 b) then true else !decide (((a.getD v5.toNat default).Id : Int) = (b.getD v5.toNat default).Id) then true else !((a.getD v5.toNat default).Pad.toList == (b.getD v5.toNat default).Pad.toList)) = false -> ((bif bif !(Z0Z a v5 b) then true else !decide (((a.getD v5.toNat default).Id : Int) = (b.getD v5.toNat default).Id) then true else !((a.getD v5.toNat default).Pad.toList == (b.getD v5.toNat default).Pad.toList)) = false), ((bif bif bif !(Z0Z a v5 b) then true else !decide (((a.getD v5.toNat default).Id : Int) = (b.getD v5.toNat default).Id) then true else !((a.getD v5.toNat default).Pad.toList == (b.getD v5.toNat default).Pad.toList) then true else !decide (((a.getD v5.toNat default).Kind : Int) = (b.getD v5.toNat default).Kind)) = false) -> ((bif bif bif !(Z0Z a v5 b) then true else !decide (((a.getD v5.toNat default).Id : Int) = (b.getD v5.toNat default).Id) then true else !((a.getD v5.toNat default).Pad.toList == (b.getD v5.toNat default).Pad.toList) then true else !decide (((a.getD v5.toNat default).Kind : Int) = (b.getD v5.toNat default).Kind)) = false), ((bif bif bif !(Z0Z a v5 b) then true else !decide (((a.getD v5.toNat default).Id : Int) = (b.getD v5.toNat default).Id) then true else !((a.getD v5.toNat default).Pad.toList == (b.getD v5.toNat default).Pad.toList) then true else !decide (((a.getD v5.toNat default).Kind : Int) = (b.getD v5.toNat default).Kind)) = false) -> ((bif bif bif !(Z0Z a v5 b) then true else !decide (((a.getD v5.toNat default).Id : Int) = (b.getD v5.toNat default).Id) then true else !((a.getD v5.toNat default).Pad.toList == (b.getD v5.toNat default).Pad.toList) then true else !decide (((a.getD v5.toNat default).Kind : Int) = (b.getD v5.toNat default).Kind)) = false), ((bif bif bif !(Z0Z a v5 b) then true else !decide (((a.getD v5.toNat default).Id : Int) = (b.getD v5.toNat default).Id) then true else !((a.getD v5.toNat default).Pad.toList == (b.getD v5.toNat default).Pad.toList) then true else !decide (((a.getD v5.toNat default).Kind : Int) = (b.getD v5.toNat default).Kind)) = false) -> ((bif bif bif !(Z0Z a v5 b) then true else !decide (((a.getD v5.toNat default).Id : Int) = (b.getD v5.toNat default).Id) then true else !((a.getD v5.toNat default).Pad.toList == (b.getD v5.toNat default).Pad.toList) then true else !decide (((a.getD v5.toNat default).Kind : Int) = (b.getD v5.toNat default).Kind)) = false), ((bif bif bif !(Z0Z a v5 b) then true else !decide (((a.getD v5.toNat default).Id : Int) = (b.getD v5.toNat default).Id) then true else !((a.getD v5.toNat default).Pad.toList == (b.getD v5.toNat default).Pad.toList) then true else !decide (((a.getD v5.toNat default).Kind : Int) = (b.getD v5.toNat default).Kind)) = false) -> ((bif bif bif !(Z0Z a v5 b) then true else !decide (((a.getD v5.toNat default).Id : Int) = (b.getD v5.toNat default).Id) then true else !((a.getD v5.toNat default).Pad.toList == (b.getD v5.toNat default).Pad.toList) then true else !decide (((a.getD v5.toNat default).Kind : Int) = (b.getD v5.toNat default).Kind)) = false), (bif bif bif !(Z0Z a v5 b) then true else !decide (((a.getD v5.toNat default).Id : Int) = (b.getD v5.toNat default).Id) then true else !((a.getD v5.toNat default).Pad.toList == (b.getD v5.toNat default).Pad.toList) then true else !decide (((a.getD v5.toNat default).Kind : Int) = (b.getD v5.toNat default).Kind)) = false -> ((bif bif bif !(Z0Z a v5 b) then true else !decide (((a.getD v5.toNat default).Id : Int) = (b.getD v5.toNat default).Id) then true else !((a.getD v5.toNat default).Pad.toList == (b.getD v5.toNat default).Pad.toList) then true else !decide (((a.getD v5.toNat default).Kind : Int) = (b.getD v5.toNat default).Kind)) = false), ((bif bif bif bif !(Z0Z a v5 b) then true else !decide (((a.getD v5.toNat default).Id : Int) = (b.getD v5.toNat default).Id) then true else !((a.getD v5.toNat default).Pad.toList == (b.getD v5.toNat default).Pad.toList) then true else !decide (((a.getD v5.toNat default).Kind : Int) = (b.getD v5.toNat default).Kind) then true else !((a.getD v5.toNat default).Net.toList == (b.getD v5.toNat default).Net.toList)) = false) -> ((bif bif bif bif !(Z0Z a v5 b) then true else !decide (((a.getD v5.toNat default).Id : Int) = (b.getD v5.toNat default).Id) then true else !((a.getD v5.toNat default).Pad.toList == (b.getD v5.toNat default).Pad.toList) then true else !decide (((a.getD v5.toNat default).Kind : Int) = (b.getD v5.toNat default).Kind) then true else !((a.getD v5.toNat default).Net.toList == (b.getD v5.toNat default).Net.toList)) = false), ((bif bif bif bif !(Z0Z a v5 b) then true else !decide (((a.getD v5.toNat default).Id : Int) = (b.getD v5.toNat default).Id) then true else !((a.getD v5.toNat default).Pad.toList == (b.getD v5.toNat default).Pad.toList) then true else !decide (((a.getD v5.toNat default).Kind : Int) = (b.getD v5.toNat default).Kind) then true else !((a.getD v5.toNat default).Net.toList == (b.getD v5.toNat default).Net.toList)) = false) -> ((bif bif bif bif !(Z0Z a v5 b) then true else !decide (((a.getD v5.toNat default).Id : Int) = (b.getD v5.toNat default).Id) then true else !((a.getD v5.toNat default).Pad.toList == (b.getD v5.toNat default).Pad.toList) then true else !decide (((a.getD v5.toNat default).Kind : Int) = (b.getD v5.toNat default).Kind) then true else !((a.getD v5.toNat default).Net.toList == (b.getD v5.toNat default).Net.toList)) = false), ((bif bif bif bif !(Z0Z a v5 b) then true else !decide (((a.getD v5.toNat default).Id : Int) = (b.getD v5.toNat default).Id) then true else !((a.getD v5.toNat default).Pad.toList == (b.getD v5.toNat default).Pad.toList) then true else !decide (((a.getD v5.toNat default).Kind : Int) = (b.getD v5.toNat default).Kind) then true else !((a.getD v5.toNat default).Net.toList == (b.getD v5.toNat default).Net.toList)) = false) -> ((bif bif bif bif !(Z0Z a v5 b) then true else !decide (((a.getD v5.toNat default).Id : Int) = (b.getD v5.toNat default).Id) then true else !((a.getD v5.toNat default).Pad.toList == (b.getD v5.toNat default).Pad.toList) then true else !decide (((a.getD v5.toNat default).Kind : Int) = (b.getD v5.toNat default).Kind) then true else !((a.getD v5.toNat default).Net.toList == (b.getD v5.toNat default).Net.toList)) = false), ((bif bif bif bif !(Z0Z a v5 b) then true else !decide (((a.getD v5.toNat default).Id : Int) = (b.getD v5.toNat default).Id) then true else !((a.getD v5.toNat default).Pad.toList == (b.getD v5.toNat default).Pad.toList) then true else !decide (((a.getD v5.toNat default).Kind : Int) = (b.getD v5.toNat default).Kind) then true else !((a.getD v5.toNat default).Net.toList == (b.getD v5.toNat default).Net.toList)) = false) -> ((bif bif bif bif !(Z0Z a v5 b) then true else !decide (((a.getD v5.toNat default).Id : Int) = (b.getD v5.toNat default).Id) then true else !((a.getD v5.toNat default).Pad.toList == (b.getD v5.toNat default).Pad.toList) then true else !decide (((a.getD v5.toNat default).Kind : Int) = (b.getD v5.toNat default).Kind) then true else !((a.getD v5.toNat default).Net.toList == (b.getD v5.toNat default).Net.toList)) = false), (bif bif bif bif !(Z0Z a v5 b) then true else !decide (((a.getD v5.toNat default).Id : Int) = (b.getD v5.toNat default).Id) then true else !((a.getD v5.toNat default).Pad.toList == (b.getD v5.toNat default).Pad.toList) then true else !decide (((a.getD v5.toNat default).Kind : Int) = (b.getD v5.toNat default).Kind) then true else !((a.getD v5.toNat default).Net.toList == (b.getD v5.toNat default).Net.toList)) = false -> ((bif bif bif bif !(Z0Z a v5 b) then true else !decide (((a.getD v5.toNat default).Id : Int) = (b.getD v5.toNat default).Id) then true else !((a.getD v5.toNat default).Pad.toList == (b.getD v5.toNat default).Pad.toList) then true else !decide (((a.getD v5.toNat default).Kind : Int) = (b.getD v5.toNat default).Kind) then true else !((a.getD v5.toNat default).Net.toList == (b.getD v5.toNat default).Net.toList)) = false), ((bif bif bif bif bif !(Z0Z a v5 b) then true else !decide (((a.getD v5.toNat default).Id : Int) = (b.getD v5.toNat default).Id) then true else !((a.getD v5.toNat default).Pad.toList == (b.getD v5.toNat default).Pad.toList) then true else !decide (((a.getD v5.toNat default).Kind : Int) = (b.getD v5.toNat default).Kind) then true else !((a.getD v5.toNat default).Net.toList == (b.getD v5.toNat default).Net.toList) then true else !decide (((a.getD v5.toNat default).From : Int) = (b.getD v5.toNat default).From)) = false) -> ((bif bif bif bif bif !(Z0Z a v5 b) then true else !decide (((a.getD v5.toNat default).Id : Int) = (b.getD v5.toNat default).Id) then true else !((a.getD v5.toNat default).Pad.toList == (b.getD v5.toNat default).Pad.toList) then true else !decide (((a.getD v5.toNat default).Kind : Int) = (b.getD v5.toNat default).Kind) then true else !((a.getD v5.toNat default).Net.toList == (b.getD v5.toNat default).Net.toList) then true else !decide (((a.getD v5.toNat default).From : Int) = (b.getD v5.toNat default).From)) = false), ((bif bif bif bif bif !(Z0Z a v5 b) then true else !decide (((a.getD v5.toNat default).Id : Int) = (b.getD v5.toNat default).Id) then true else !((a.getD v5.toNat default).Pad.toList == (b.getD v5.toNat default).Pad.toList) then true else !decide (((a.getD v5.toNat default).Kind : Int) = (b.getD v5.toNat default).Kind) then true else !((a.getD v5.toNat default).Net.toList == (b.getD v5.toNat default).Net.toList) then true else !decide (((a.getD v5.toNat default).From : Int) = (b.getD v5.toNat default).From)) = false) -> ((bif bif bif bif bif !(Z0Z a v5 b) then true else !decide (((a.getD v5.toNat default).Id : Int) = (b.getD v5.toNat default).Id) then true else !((a.getD v5.toNat default).Pad.toList == (b.getD v5.toNat default).Pad.toList) then true else !decide (((a.getD v5.toNat default).Kind : Int) = (b.getD v5.toNat default).Kind) then true else !((a.getD v5.toNat default).Net.toList == (b.getD v5.toNat default).Net.toList) then true else !decide (((a.getD v5.toNat default).From : Int) = (b.getD v5.toNat default).From)) = false), ((bif bif bif bif bif !(Z0Z a v5 b) then true else !decide (((a.getD v5.toNat default).Id : Int) = (b.getD v5.toNat default).Id) then true else !((a.getD v5.toNat default).Pad.toList == (b.getD v5.toNat default).Pad.toList) then true else !decide (((a.getD v5.toNat default).Kind : Int) = (b.getD v5.toNat default).Kind) then true else !((a.getD v5.toNat default).Net.toList == (b.getD v5.toNat default).Net.toList) then true else !decide (((a.getD v5.toNat default).From : Int) = (b.getD v5.toNat default).From)) = false) -> ((bif bif bif bif bif !(Z0Z a v5 b) then true else !decide (((a.getD v5.toNat default).Id : Int) = (b.getD v5.toNat default).Id) then true else !((a.getD v5.toNat default).Pad.toList == (b.getD v5.toNat default).Pad.toList) then true else !decide (((a.getD v5.toNat default).Kind : Int) = (b.getD v5.toNat default).Kind) then true else !((a.getD v5.toNat default).Net.toList == (b.getD v5.toNat default).Net.toList) then true else !decide (((a.getD v5.toNat default).From : Int) = (b.getD v5.toNat default).From)) = false), ((bif bif bif bif bif !(Z0Z a v5 b) then true else !decide (((a.getD v5.toNat default).Id : Int) = (b.getD v5.toNat default).Id) then true else !((a.getD v5.toNat default).Pad.toList == (b.getD v5.toNat default).Pad.toList) then true else !decide (((a.getD v5.toNat default).Kind : Int) = (b.getD v5.toNat default).Kind) then true else !((a.getD v5.toNat default).Net.toList == (b.getD v5.toNat default).Net.toList) then true else !decide (((a.getD v5.toNat default).From : Int) = (b.getD v5.toNat default).From)) = false) -> ((bif bif bif bif bif !(Z0Z a v5 b) then true else !decide (((a.getD v5.toNat default).Id : Int) = (b.getD v5.toNat default).Id) then true else !((a.getD v5.toNat default).Pad.toList == (b.getD v5.toNat default).Pad.toList) then true else !decide (((a.getD v5.toNat default).Kind : Int) = (b.getD v5.toNat default).Kind) then true else !((a.getD v5.toNat default).Net.toList == (b.getD v5.toNat default).Net.toList) then true else !decide (((a.getD v5.toNat default).From : Int) = (b.getD v5.toNat default).From)) = false), (bif bif bif bif bif !(Z0Z a v5 b) then true else !decide (((a.getD v5.toNat default).Id : Int) = (b.getD v5.toNat default).Id) then true else !((a.getD v5.toNat default).Pad.toList == (b.getD v5.toNat default).Pad.toList) then true else !decide (((a.getD v5.toNat default).Kind : Int) = (b.getD v5.toNat default).Kind) then true else !((a.getD v5.toNat default).Net.toList == (b.getD v5.toNat default).Net.toList) then true else !decide (((a.getD v5.toNat default).From : Int) = (b.getD v5.toNat default).From)) = false -> ((bif bif bif bif bif !(Z0Z a v5 b) then true else !decide (((a.getD v5.toNat default).Id : Int) = (b.getD v5.toNat default).Id) then true else !((a.getD v5.toNat default).Pad.toList == (b.getD v5.toNat default).Pad.toList) then true else !decide (((a.getD v5.toNat default).Kind : Int) = (b.getD v5.toNat default).Kind) then true else !((a.getD v5.toNat default).Net.toList == (b.getD v5.toNat default).Net.toList) then true else !decide (((a.getD v5.toNat default).From : Int) = (b.getD v5.toNat default).From)) = false)] ⟨[(0, tO (lst 9 Ar.c a)), (1, tO (lst 9 Ar.c b)), (5, tI v5), (76, tB (bif bif bif bif bif bif !(Z0Z a v5 b) then true else !decide (((a.getD v5.toNat default).Id : Int) = (b.getD v5.toNat default).Id) then true else !((a.getD v5.toNat default).Pad.toList == (b.getD v5.toNat default).Pad.toList) then true else !decide (((a.getD v5.toNat default).Kind : Int) = (b.getD v5.toNat default).Kind) then true else !((a.getD v5.toNat default).Net.toList == (b.getD v5.toNat default).Net.toList) then true else !decide (((a.getD v5.toNat default).From : Int) = (b.getD v5.toNat default).From) then true else !decide (((a.getD v5.toNat default).To : Int) = (b.getD v5.toNat default).To)))], []⟩ .nil (.cons id (.cons id (.cons id (.cons id (.cons id (.cons id (.cons id (.cons id (.cons id (.cons id (.cons id (.cons id (.cons id (.cons id (.cons id (.cons id (.cons id (.cons id (.cons id (.cons id (.cons id (.cons id (.cons id (.cons id (.cons id (.cons id (.cons id (.cons id (.cons id (.cons id .nil)))))))))))))))))))))))))))))) <| AJ ?_
    refine Ae _ rfl (fun h3 => ?_) (fun h3 => ?_)
    ·refine AC <| rn ⟨[(4, tB false)], []⟩ ?_
     refine Aj <| CD ?_
     refine BO <| BO ?_
     refine CD <| BO ?_
     exact ⟨_, Cv.refl _, .inl rfl, tO (.b false), by kernel_rfl, Ao (by rw [<- hF0]; first | (simp only [Di, h2, h3, cond_true, cond_false] <;> rfl))⟩
    ·refine Ak <| Bq <| AJ ?_
     refine rg ⟨[(0, tO (lst 9 Ar.c a)), (1, tO (lst 9 Ar.c b)), (5, tI (W64 (v5 + 1)))], []⟩ ?_
     (try rw [(show W64 (v5 + 1) = v5 + 1 from BP (by omega) au9)])
     refine AJ ?_
     refine ⟨(n0, v5 + 1), ⟨?_, ?_, (by rw [<- hF0]; simp only [Di, h2, h3, cond_true, cond_false])⟩, Nat.lt_succ_self _, A6 kr⟩
     ·show ((a.length : Int) - (v5 + 1)).toNat < n0; omega
     ·exact ⟨ax0, ax0⟩
   ·have g2 := oF h2
    refine BZ <| BI ?_
    refine BI <| Ba ?_
    refine AJ <| AC ?_
    refine rn ⟨[(4, tB true)], []⟩ <| Aj ?_
    exact ⟨_, Cv.refl _, .inl rfl, tO (.b true), by kernel_rfl, Ao (by rw [<- hF0]; first | (simp only [Di, h2, cond_true, cond_false] <;> rfl))⟩
theorem Rg (a : (List Ar)) (b : (List Ar)) (h0 : (a.length : Int) <= 1000000000) (ha : ∀ k, (((a.getD k default).Shape.Edges.length : Int) <= 1000000)) (hbb : ∀ k, (((b.getD k default).Shape.Edges.length : Int) <= 1000000)) : A1 Try.prog (HM a b).1 (HM a b).2.1 (HM a b).2.2 := Aa (fun _ _ => kr) fun _ => TJ a b h0 ha hbb
def Z10 (s : AQ) : Blk := .cells (An.c (CT (s.Edges.getD 0 default))) 76
def Z11 (s : AQ) : Tv := tI (((((s.Edges.length : Nat) : Int) : Int).toNat - (1 : Int).toNat : Nat) : Int)
def Z12 (s : AQ) : Tv := .av (.one (lst 7 AH.c (s.Edges.drop (1 : Int).toNat)))
def Z13 (s : AQ) (v21 : Int) : AH := (s.Edges.drop (1 : Int).toNat).getD v21.toNat default
def Z14 (v3 : An) (s : AQ) (v21 : Int) : Blk := .cells [.i (min v3.X0 (CT (Z13 s v21)).X0), .i (min v3.Y0 (CT (Z13 s v21)).Y0), .i (max v3.X1 (CT (Z13 s v21)).X1), .i (max v3.Y1 (CT (Z13 s v21)).Y1)] 76
def Ii (s : AQ) : Nat -> An -> Int -> An
 | 0, _, _ => default
 | n0 + 1, v3, v21 => bif decide ((v21 : Int) < (((((s.Edges.length : Nat) : Int) : Int).toNat - (1 : Int).toNat : Nat) : Int)) then ((Ii s n0) (An.mk (min v3.X0 (CT (Z13 s v21)).X0) (min v3.Y0 (CT (Z13 s v21)).Y0) (max v3.X1 (CT (Z13 s v21)).X1) (max v3.Y1 (CT (Z13 s v21)).Y1)) (v21 + 1)) else (An.mk (W64 (v3.X0 - s.R)) (W64 (v3.Y0 - s.R)) (W64 (v3.X1 + s.R)) (W64 (v3.Y1 + s.R)))
def Mo (s : AQ) : An := bif decide (((s.Edges.length : Int) : Int) = 0) then (An.mk 0 0 0 0) else (Ii s (((((((s.Edges.length : Nat) : Int) : Int).toNat - (1 : Int).toNat : Nat) : Int) - 0).toNat + 1) (CT (s.Edges.getD 0 default)) 0)
def Qy (s : AQ) : FuncId × List Av × Ef := (22, [.agg (AQ.c s)], .val [] (.av (.agg (An.c (Mo s)))))
theorem pBox (s : AQ) (h0 : (s.Edges.length : Int) <= 1000000) : Bo Try.prog 22 (Qy s).2.1 (.av (.agg (An.c (Mo s)))) := by
 refine AX Try.func22 rfl kr kr fun W0 M0 => ?_
 refine AC <| rn ⟨[(1, tP 1 0), (2, tP 2 0)], [(1, .cells (AQ.c s) 29), (2, .cells [.i 0, .i 0, .i 0, .i 0] 76)]⟩ ?_
 refine AC <| AC ?_
 refine rn ⟨[(1, tP 1 0), (2, tP 2 0), (10, tB (decide (((s.Edges.length : Int) : Int) = 0)))], [(1, .cells (AQ.c s) 29), (2, .cells [.i 0, .i 0, .i 0, .i 0] 76)]⟩ ?_
 refine Ae _ rfl (fun h1 => ?_) (fun h1 => ?_)
 ·have g1 := oT h1
  refine AC <| rn ⟨[(2, tP 2 0)], [(2, .cells [.i 0, .i 0, .i 0, .i 0] 76)]⟩ ?_
  refine Aj <| BO ?_
  exact ⟨_, Cv.refl _, .inl rfl, .av (.agg [.i 0, .i 0, .i 0, .i 0]), by kernel_rfl, Ao (by first | (simp only [Mo, h1, cond_true, cond_false] <;> rfl))⟩
 ·have g1 := oF h1
  refine Ak <| AJ <| AC ?_
  refine rc [(16, E1 (s.Edges.getD 0 default))] [0 <= (0 : Int) /\ (0 : Int) < ((s.Edges.length : Nat) : Int), Al (E1 (s.Edges.getD 0 default)).2.1] ⟨[(1, tP 1 0), (2, tP 2 0), (3, tP 3 0)], [(1, .cells (AQ.c s) 29), (2, .cells [.i 0, .i 0, .i 0, .i 0] 76), (3, Z10 s)]⟩ (.cons (LE (s.Edges.getD 0 default)) .nil) (.cons au0 (.cons rfl .nil)) <| AJ ?_
  refine AC <| AC ?_
  refine rc [] [0 <= (1 : Int) /\ (1 : Int) <= (((s.Edges.length : Nat) : Int) : Int) /\ (((s.Edges.length : Nat) : Int) : Int) <= ((s.Edges.length : Nat) : Int)] ⟨[(1, tP 1 0), (2, tP 2 0), (3, tP 3 0), (19, .av (.one (.list false 7 ((((s.Edges.length : Nat) : Int) : Int).toNat - (1 : Int).toNat) (fun i_ j_ => (AY AH.c s.Edges) (i_ + (1 : Int).toNat) j_)))), (20, Z11 s), (21, tI 0)], [(1, .cells (AQ.c s) 29), (2, .cells [.i 0, .i 0, .i 0, .i 0] 76), (3, Z10 s)]⟩ .nil (.cons au0 .nil) <| AJ ?_
  refine Bl (Cv.trans (BR (⟨[(1, tP 1 0), (2, tP 2 0), (3, tP 3 0), (19, Z12 s), (20, Z11 s), (21, tI 0)], [(1, .cells (AQ.c s) 29), (2, .cells [.i 0, .i 0, .i 0, .i 0] 76), (3, Z10 s)]⟩) (.cons ⟨rfl, .refl _⟩ (.cons ⟨rfl, .refl _⟩ (.cons ⟨rfl, .refl _⟩ (.cons ⟨rfl, .av (.one (Bt false (K6 (a := 1) (BK 7 AH.c s.Edges) (by have hc := (show 0 <= (1 : Int) /\ (1 : Int) <= (((s.Edges.length : Nat) : Int) : Int) /\ (((s.Edges.length : Nat) : Int) : Int) <= ((s.Edges.length : Nat) : Int) from au0); exact hc.1) (by have hc := (show 0 <= (1 : Int) /\ (1 : Int) <= (((s.Edges.length : Nat) : Int) : Int) /\ (((s.Edges.length : Nat) : Int) : Int) <= ((s.Edges.length : Nat) : Int) from au0); exact hc.2.1))))⟩ lr)))) lr) (Cv.refl _)) <| Af ?_
  refine BL (ι := Nat × An × Int) (fun x => ⟨[(1, tP 1 0), (2, tP 2 0), (3, tP 3 0), (19, Z12 s), (20, Z11 s), (21, tI x.2.2)], [(1, .cells (AQ.c s) 29), (2, .cells [.i 0, .i 0, .i 0, .i 0] 76), (3, .cells (An.c x.2.1) 76)]⟩) (fun x => ((((((s.Edges.length : Nat) : Int) : Int).toNat - (1 : Int).toNat : Nat) : Int) - x.2.2).toNat < x.1 /\ (0 <= x.2.2 /\ (x.2.2 <= (((((s.Edges.length : Nat) : Int) : Int).toNat - (1 : Int).toNat : Nat) : Int) \/ x.2.2 = 0)) /\ Ii s x.1 x.2.1 x.2.2 = Mo s) (fun x => x.1) ?_ (((((((s.Edges.length : Nat) : Int) : Int).toNat - (1 : Int).toNat : Nat) : Int) - 0).toNat + 1, CT (s.Edges.getD 0 default), 0) ⟨Nat.lt_succ_self _, ⟨ax0, ax0⟩, (by simp only [Mo, h1, cond_true, cond_false])⟩
  rintro ⟨n0, v3, v21⟩ ⟨hn, hinv, hF⟩
  have hm0 := hn; have hinv0 := hinv; have hF0 := hF; try dsimp only at hm0 hinv0 hF0
  clear hn hinv hF
  cases n0 with
  | zero => exact absurd hm0 (Nat.not_lt_zero _)
  | succ n0 =>
   refine AC <| rn ⟨[(1, tP 1 0), (2, tP 2 0), (3, tP 3 0), (19, Z12 s), (20, Z11 s), (21, tI v21), (22, tB (decide ((v21 : Int) < (((((s.Edges.length : Nat) : Int) : Int).toNat - (1 : Int).toNat : Nat) : Int))))], [(1, .cells (AQ.c s) 29), (2, .cells [.i 0, .i 0, .i 0, .i 0] 76), (3, .cells (An.c v3) 76)]⟩ <| AC ?_
   refine Ae (decide ((v21 : Int) < (((((s.Edges.length : Nat) : Int) : Int).toNat - (1 : Int).toNat : Nat) : Int))) kr (fun h2 => ?_) (fun h2 => ?_)
   ·have g2 := oT h2
    refine Ak <| AJ ?_
    refine AC <| Af <| AC ?_
    refine rc [] [0 <= (v21 : Int) /\ (v21 : Int) < (((s.Edges.drop (1 : Int).toNat).length : Nat) : Int)] ⟨[(1, tP 1 0), (2, tP 2 0), (3, tP 3 0), (5, tP 5 0), (19, Z12 s), (20, Z11 s), (21, tI v21)], [(1, .cells (AQ.c s) 29), (2, .cells [.i 0, .i 0, .i 0, .i 0] 76), (3, .cells (An.c v3) 76), (5, .cells (AH.c (Z13 s v21)) 133)]⟩ .nil (.cons au0 .nil) <| AJ <| AC ?_
    refine rc [(26, E1 (Z13 s v21))] [Al (E1 (Z13 s v21)).2.1] ⟨[(1, tP 1 0), (2, tP 2 0), (3, tP 3 0), (6, tP 6 0), (19, Z12 s), (20, Z11 s), (21, tI v21)], [(1, .cells (AQ.c s) 29), (2, .cells [.i 0, .i 0, .i 0, .i 0] 76), (3, .cells (An.c v3) 76), (6, .cells (An.c (CT (Z13 s v21))) 76)]⟩ (.cons (LE (Z13 s v21)) .nil) (.cons rfl .nil) <| AJ ?_
    refine rg ⟨[(1, tP 1 0), (2, tP 2 0), (3, tP 3 0), (19, Z12 s), (20, Z11 s), (21, tI v21)], [(1, .cells (AQ.c s) 29), (2, .cells [.i 0, .i 0, .i 0, .i 0] 76), (3, Z14 v3 s v21)]⟩ <| Bq <| AJ ?_
    refine rg ⟨[(1, tP 1 0), (2, tP 2 0), (3, tP 3 0), (19, Z12 s), (20, Z11 s), (21, tI (W64 (v21 + 1)))], [(1, .cells (AQ.c s) 29), (2, .cells [.i 0, .i 0, .i 0, .i 0] 76), (3, Z14 v3 s v21)]⟩ ?_
    (try rw [(show W64 (v21 + 1) = v21 + 1 from BP (by omega) au9)])
    refine AJ ?_
    refine ⟨(n0, An.mk (min v3.X0 (CT (Z13 s v21)).X0) (min v3.Y0 (CT (Z13 s v21)).Y0) (max v3.X1 (CT (Z13 s v21)).X1) (max v3.Y1 (CT (Z13 s v21)).Y1), v21 + 1), ⟨?_, ?_, (by rw [<- hF0]; simp only [Ii, h2, cond_true, cond_false])⟩, Nat.lt_succ_self _, A6 kr⟩
    ·show ((((((s.Edges.length : Nat) : Int) : Int).toNat - (1 : Int).toNat : Nat) : Int) - (v21 + 1)).toNat < n0; omega
    ·exact ⟨ax0, ax0⟩
   ·have g2 := oF h2
    refine BZ <| BI ?_
    refine BI <| Ba ?_
    refine AJ <| AC ?_
    refine rn ⟨[(2, tP 2 0)], [(2, .cells [.i (W64 (v3.X0 - s.R)), .i (W64 (v3.Y0 - s.R)), .i (W64 (v3.X1 + s.R)), .i (W64 (v3.Y1 + s.R))] 76)]⟩ <| Aj ?_
    exact ⟨_, Cv.refl _, .inl rfl, .av (.agg [.i (W64 (v3.X0 - s.R)), .i (W64 (v3.Y0 - s.R)), .i (W64 (v3.X1 + s.R)), .i (W64 (v3.Y1 + s.R))]), by kernel_rfl, Ao (by rw [<- hF0]; first | (simp only [Ii, h2, cond_true, cond_false] <;> rfl))⟩
theorem okBox (s : AQ) (h0 : (s.Edges.length : Int) <= 1000000) : A1 Try.prog (Qy s).1 (Qy s).2.1 (Qy s).2.2 := Aa (fun _ _ => kr) fun _ => pBox s h0
def Z15 : Blk := .cells [.i 0, vN, .i 0] 29
def Z16 : Blk := .row 7 ([] : List AH).length (AY AH.c ([] : List AH)) 133
def Z17 : Blk := .cells [.i 2, .own 100000 7 ([] : List AH).length, .i 0] 29
def Z18 (l : (List AE)) (k : Int) : AE := l.getD (Int.tmod (W64 (k + 1)) (l.length : Int)).toNat default
def Z19 (s_1 : List AH) (l : (List AE)) (k : Int) : Blk := .cells [.i 2, .own 28 7 (s_1 ++ [AH.mk 1 (l.getD k.toNat default) (Z18 l k) (AE.mk 0 0)]).length, .i 0] 29
def Z1a (s_1 : List AH) (l : (List AE)) (k : Int) : Blk := .row 7 (s_1 ++ [AH.mk 1 (l.getD k.toNat default) (Z18 l k) (AE.mk 0 0)]).length (AY AH.c (s_1 ++ [AH.mk 1 (l.getD k.toNat default) (Z18 l k) (AE.mk 0 0)])) 133
def G7 (l : (List AE)) : Nat -> List AH -> Int -> AQ
 | 0, _, _ => default
 | n0 + 1, s_1, k => bif decide ((k : Int) < (l.length : Int)) then ((G7 l n0) (s_1 ++ [AH.mk 1 (l.getD k.toNat default) (Z18 l k) (AE.mk 0 0)]) (k + 1)) else (AQ.mk 2 s_1 0)
def N6 (l : (List AE)) : AQ := G7 l (((l.length : Int) - 0).toNat + 1) ([] : List AH) 0
def Lk (l : (List AE)) : FuncId × List Av × Ef := (77, [.one (lst 2 AE.c l)], .val [] (.av (.agg (AQ.c (N6 l)))))
theorem pLoop (l : (List AE)) (h0 : (l.length : Int) <= 1000000) : Bo Try.prog 77 (Lk l).2.1 (.av (.agg (AQ.c (N6 l)))) := by
 refine AX Try.func77 rfl kr kr fun W0 M0 => ?_
 refine AC <| rn ⟨[(0, tO (lst 2 AE.c l)), (2, tP 2 0)], [(2, Z15)]⟩ <| AC ?_
 refine rn ⟨[(0, tO (lst 2 AE.c l)), (2, tP 2 0), (3, tP 3 0)], [(2, Z15), (3, .cells [.i 2, vN, .i 0] 29)]⟩ ?_
 refine AC <| AC ?_
 refine rn ⟨[(0, tO (lst 2 AE.c l)), (2, tP 2 0), (3, tP 3 0), (4, tI 0)], [(2, Z15), (3, .cells [.i 2, vN, .i 0] 29)]⟩ <| Af ?_
 refine Bl (Cv.trans (CH (⟨[(0, tO (lst 2 AE.c l)), (2, tP 2 0), (3, tP 3 0), (4, tI 0)], [(100000, .row 7 0 (fun _ _ => default) 133), (2, Z15), (3, .cells [.i 2, .own 100000 7 0, .i 0] 29)]⟩) 100000 7 (fun _ _ => default) 133 [] [(3, [1])] (K := []) (fun k x h => by cases h) rfl kr kr) (Cv.trans (BR (⟨[(0, tO (lst 2 AE.c l)), (2, tP 2 0), (3, tP 3 0), (4, tI 0)], [(100000, Z16), (2, Z15), (3, Z17)]⟩) lr (.cons ⟨rfl, Aw 133 (CF 7 (fun _ _ => default) AH.c)⟩ (.cons ⟨rfl, .refl _⟩ (.cons ⟨rfl, .cells _ (rr (.cons (.own _ _ au2) (rr .nil)))⟩ .nil)))) (Cv.trans (BA [0, 2, 3, 4] [2, 3, 100000] (⟨[(0, tO (lst 2 AE.c l)), (2, tP 2 0), (3, tP 3 0), (4, tI 0)], [(2, Z15), (3, Z17), (100000, Z16)]⟩) kr) (Cv.refl _)))) ?_
 refine BL (ι := Nat × List AH × Int) (fun x => ⟨[(0, tO (lst 2 AE.c l)), (2, tP 2 0), (3, tP 3 0), (4, tI x.2.2)], [(2, Z15), (3, .cells [.i 2, .own 100000 7 x.2.1.length, .i 0] 29), (100000, .row 7 x.2.1.length (AY AH.c x.2.1) 133)]⟩) (fun x => ((l.length : Int) - x.2.2).toNat < x.1 /\ (0 <= x.2.2 /\ (x.2.2 <= (l.length : Int) \/ x.2.2 = 0) /\ (x.2.1.length : Int) <= 0 + 1 * (x.2.2 - 0)) /\ G7 l x.1 x.2.1 x.2.2 = N6 l) (fun x => x.1) ?_ (((l.length : Int) - 0).toNat + 1, ([] : List AH), 0) ⟨Nat.lt_succ_self _, ⟨ax0, ax0, ax0⟩, (by simp only [N6, cond_true, cond_false])⟩
 rintro ⟨n0, s_1, k⟩ ⟨hn, hinv, hF⟩
 have hm0 := hn; have hinv0 := hinv; have hF0 := hF; try dsimp only at hm0 hinv0 hF0
 clear hn hinv hF
 cases n0 with
 | zero => exact absurd hm0 (Nat.not_lt_zero _)
 | succ n0 =>
  refine AC <| AC ?_
  refine rn ⟨[(0, tO (lst 2 AE.c l)), (2, tP 2 0), (3, tP 3 0), (4, tI k), (9, tB (decide ((k : Int) < (l.length : Int))))], [(2, Z15), (3, .cells [.i 2, .own 100000 7 s_1.length, .i 0] 29), (100000, .row 7 s_1.length (AY AH.c s_1) 133)]⟩ ?_
  refine Ae _ rfl (fun h1 => ?_) (fun h1 => ?_)
  ·have g1 := oT h1
   refine Ak <| AJ ?_
   refine AC <| Af ?_
   refine dw [] [] [0 <= (k : Int) /\ (k : Int) < ((l.length : Nat) : Int), ((l.length : Int) : Int) ≠ 0, 0 <= (Int.tmod (W64 (k + 1)) (l.length : Int) : Int) /\ (Int.tmod (W64 (k + 1)) (l.length : Int) : Int) < ((l.length : Nat) : Int), s_1.length = s_1.length, s_1.length + 1 <= maxLen, (s_1.length + 1) * 56 <= 140737488355328] ⟨[(0, tO (lst 2 AE.c l)), (2, tP 2 0), (3, tP 3 0), (4, tI k)], [(2, Z15), (3, .cells [.i 2, .own 28 7 (s_1.length + 1), .i 0] 29), (28, .row 7 (s_1.length + 1) (fun i_ j_ => if i_ < s_1.length then (AY AH.c s_1) i_ j_ else (A0 7 1 [.i 1, .i (l.getD k.toNat default).X, .i (l.getD k.toNat default).Y, .i (Z18 l k).X, .i (Z18 l k).Y, .i 0, .i 0]) (i_ - s_1.length) j_) 133)]⟩ .nil (.cons au0 (.cons au14 (.cons au0 (.cons rfl (.cons au3 (.cons au3 .nil)))))) <| Bq <| AJ ?_
   refine Bl (Cv.trans (BR (⟨[(0, tO (lst 2 AE.c l)), (2, tP 2 0), (3, tP 3 0), (4, tI k)], [(2, Z15), (3, Z19 s_1 l k), (28, Z1a s_1 l k)]⟩) lr (.cons ⟨rfl, .refl _⟩ (.cons ⟨rfl, .cells _ (rr (.cons (.own _ _ au2) (rr .nil)))⟩ (.cons ⟨rfl, Aw 133 (BV (BK 7 AH.c s_1) (A2 (c := AH.c) (xs := ([AH.mk 1 (l.getD k.toNat default) (Z18 l k) (AE.mk 0 0)] : List AH)) rfl kr))⟩ .nil)))) (Cv.refl _)) ?_
   refine rg ⟨[(0, tO (lst 2 AE.c l)), (2, tP 2 0), (3, tP 3 0), (4, tI (W64 (k + 1)))], [(2, Z15), (3, Z19 s_1 l k), (28, Z1a s_1 l k)]⟩ ?_
   (try rw [(show W64 (k + 1) = k + 1 from BP (by omega) au9)])
   refine AJ ?_
   refine ⟨(n0, s_1 ++ [AH.mk 1 (l.getD k.toNat default) (Z18 l k) (AE.mk 0 0)], k + 1), ⟨?_, ?_, (by rw [<- hF0]; simp only [G7, h1, cond_true, cond_false])⟩, Nat.lt_succ_self _, Cv.trans (Be (⟨[(0, tO (lst 2 AE.c l)), (2, tP 2 0), (3, tP 3 0), (4, tI (k + 1))], [(2, Z15), (3, .cells [.i 2, .own 100000 7 (s_1 ++ [AH.mk 1 (l.getD k.toNat default) (Z18 l k) (AE.mk 0 0)]).length, .i 0] 29), (100000, Z1a s_1 l k)]⟩) 28 100000 (K := []) (fun k x h => by cases h) rfl rfl kr kr) (A6 kr)⟩
   ·show ((l.length : Int) - (k + 1)).toNat < n0; omega
   ·exact ⟨ax0, ax0, ax0⟩
  ·have g1 := oF h1
   refine BZ <| BI ?_
   refine BI <| Ba ?_
   refine AJ <| AC ?_
   refine rn ⟨[(2, tP 2 0)], [(2, .cells [.i 2, .own 100000 7 s_1.length, .i 0] 29), (100000, .row 7 s_1.length (AY AH.c s_1) 133)]⟩ <| Aj ?_
   exact ⟨_, Cv.trans (Cu (⟨[(2, tP 2 0)], [(2, .cells [.i 2, lst 7 AH.c s_1, .i 0] 29)]⟩) 100000 7 s_1.length (AY AH.c s_1) 133 (K := []) (fun k x h => by cases h) kr kr (.cons ⟨rfl, rfl⟩ .nil) kr) (Cv.refl _), .inl rfl, .av (.agg [.i 2, lst 7 AH.c s_1, .i 0]), by kernel_rfl, Ao (by rw [<- hF0]; first | (simp only [G7, h1, cond_true, cond_false] <;> rfl))⟩
theorem Un (l : (List AE)) (h0 : (l.length : Int) <= 1000000) : A1 Try.prog (Lk l).1 (Lk l).2.1 (Lk l).2.2 := Aa (fun _ _ => kr) fun _ => pLoop l h0
def Z1b (r : An) : AQ := N6 [AE.mk r.X0 r.Y0, AE.mk r.X1 r.Y0, AE.mk r.X1 r.Y1, AE.mk r.X0 r.Y1]
def Ce (r : An) : AQ := Z1b r
def E8 (r : An) : FuncId × List Av × Ef := (50, [.agg (An.c r)], .val [] (.av (.agg (AQ.c (Ce r)))))
theorem UW (r : An) : Bo Try.prog 50 (E8 r).2.1 (.av (.agg (AQ.c (Ce r)))) := by
 refine AX Try.func50 rfl kr kr fun W0 M0 => ?_
 refine AC <| rn ⟨[(1, tP 1 0), (2, tP 2 0)], [(1, .cells (An.c r) 76), (2, .cells [.i 0, vN, .i 0] 29)]⟩ <| AC ?_
 refine rc [(24, ceI [.one (.list true 2 4 (A0 2 4 [.i r.X0, .i r.Y0, .i r.X1, .i r.Y0, .i r.X1, .i r.Y1, .i r.X0, .i r.Y1]))] (Lk [AE.mk r.X0 r.Y0, AE.mk r.X1 r.Y0, AE.mk r.X1 r.Y1, AE.mk r.X0 r.Y1]))] [Al (ceI [.one (.list true 2 4 (A0 2 4 [.i r.X0, .i r.Y0, .i r.X1, .i r.Y0, .i r.X1, .i r.Y1, .i r.X0, .i r.Y1]))] (Lk [AE.mk r.X0 r.Y0, AE.mk r.X1 r.Y0, AE.mk r.X1 r.Y1, AE.mk r.X0 r.Y1])).2.1] ⟨[(2, tP 2 0)], [(2, .cells (AQ.c (Z1b r)) 29)]⟩ (.cons (Cg (Un [AE.mk r.X0 r.Y0, AE.mk r.X1 r.Y0, AE.mk r.X1 r.Y1, AE.mk r.X0 r.Y1] au6) (.cons (.one (Bt true (A2 (c := AE.c) (xs := ([AE.mk r.X0 r.Y0, AE.mk r.X1 r.Y0, AE.mk r.X1 r.Y1, AE.mk r.X0 r.Y1] : List AE)) rfl kr))) .nil)) .nil) (.cons rfl .nil) <| AJ <| Aj ?_
 exact ⟨_, Cv.refl _, .inl rfl, .av (.agg (AQ.c (Z1b r))), by kernel_rfl, Ao (by rfl)⟩
theorem Jb (r : An) : A1 Try.prog (E8 r).1 (E8 r).2.1 (E8 r).2.2 := Aa (fun _ _ => kr) fun _ => UW r
def DB (x0 : AE) (x1 : Int) : AQ := AQ.mk 1 [AH.mk 1 x0 x0 (AE.mk 0 0)] x1
def Gy (x0 : AE) (x1 : Int) : FuncId × List Av × Ef := (28, [.agg (AE.c x0), .one (.i x1)], .val [] (.av (.agg (AQ.c (DB x0 x1)))))
theorem Ue (x0 : AE) (x1 : Int) : Bo Try.prog 28 (Gy x0 x1).2.1 (.av (.agg (AQ.c (DB x0 x1)))) := by
 refine AX Try.func28 rfl kr kr fun W0 M0 => ?_
 refine AC <| rn ⟨[(1, tI x1), (2, tP 2 0), (4, tP 4 0)], [(2, .cells (AE.c x0) 52), (4, .cells [.i 0, vN, .i 0] 29)]⟩ <| AC ?_
 refine rn ⟨[(4, tP 4 0)], [(4, .cells [.i 1, .list true 7 1 (A0 7 1 [.i 1, .i x0.X, .i x0.Y, .i x0.X, .i x0.Y, .i 0, .i 0]), .i x1] 29)]⟩ <| Aj ?_
 exact ⟨_, Cv.refl _, .inl rfl, .av (.agg [.i 1, .list true 7 1 (A0 7 1 [.i 1, .i x0.X, .i x0.Y, .i x0.X, .i x0.Y, .i 0, .i 0]), .i x1]), by kernel_rfl, DG (y := .av (.agg [.i 1, lst 7 AH.c [AH.mk 1 x0 x0 (AE.mk 0 0)], .i x1])) (.av (.agg (rr (.cons (Bt true (A2 (c := AH.c) (xs := ([AH.mk 1 x0 x0 (AE.mk 0 0)] : List AH)) rfl kr)) (rr .nil))))) (by rfl)⟩
theorem Pb (x0 : AE) (x1 : Int) : A1 Try.prog (Gy x0 x1).1 (Gy x0 x1).2.1 (Gy x0 x1).2.2 := Aa (fun _ _ => kr) fun _ => Ue x0 x1
end
section
open Go.RowKit
def Z1c : Blk := .cells [.i 0, .i 0, vN, .i 0, vN, vN, vN, vN, vN, vN, vN, vN, vN, vN, vN] 42
def Z1d : Blk := .cells [.s ({ data := #[84] } : ByteArray), .list true 7 2 (A0 7 2 [.s ({ data := #[65] } : ByteArray), .i (DB (AE.mk 0 0) 5).Kind, lst 7 AH.c (DB (AE.mk 0 0) 5).Edges, .i (DB (AE.mk 0 0) 5).R, .i 0, .i 0, .i 4, .s ({ data := #[66] } : ByteArray), .i (Ce (An.mk 10 (-3) 20 3)).Kind, lst 7 AH.c (Ce (An.mk 10 (-3) 20 3)).Edges, .i (Ce (An.mk 10 (-3) 20 3)).R, .i 15, .i 0, .i 0]), vN] 114
def Z1e : Blk := .cells [.i 2, .i 0, vN, .i 0, .list true 7 2 (A0 7 2 [.i 7, .s ({ data := #[85, 49] } : ByteArray), .s ({ data := #[84] } : ByteArray), .i 100, .i 50, .i 1, .b false, .i 3, .s ({ data := #[85, 50] } : ByteArray), .s ({ data := #[84] } : ByteArray), .i 0, .i 0, .i 0, .b true]), .list true 2 1 (A0 2 1 [.s ({ data := #[78] } : ByteArray), .list true 2 2 (A0 2 2 [.s ({ data := #[85, 49] } : ByteArray), .s ({ data := #[66] } : ByteArray), .s ({ data := #[85, 50] } : ByteArray), .s ({ data := #[65] } : ByteArray)])]), vN, vN, vN, vN, vN, vN, vN, vN, vN] 42
def AN : (AF × (List AG)) := (AF.mk 2 (AQ.mk 0 [] 0) [AD.mk 7 ({ data := #[85, 49] } : ByteArray) ({ data := #[84] } : ByteArray) (AE.mk 100 50) 1 false, AD.mk 3 ({ data := #[85, 50] } : ByteArray) ({ data := #[84] } : ByteArray) (AE.mk 0 0) 0 true] [Ad.mk ({ data := #[78] } : ByteArray) [AR.mk ({ data := #[85, 49] } : ByteArray) ({ data := #[66] } : ByteArray), AR.mk ({ data := #[85, 50] } : ByteArray) ({ data := #[65] } : ByteArray)]] [] [] [] [] [] [] [] [] [], [AG.mk ({ data := #[84] } : ByteArray) [Ap.mk ({ data := #[65] } : ByteArray) (DB (AE.mk 0 0) 5) (AE.mk 0 0) 4, Ap.mk ({ data := #[66] } : ByteArray) (Ce (An.mk 10 (-3) 20 3)) (AE.mk 15 0) 0] []])
def Dh : FuncId × List Av × Ef := (19, [], .val [] (.tup [.agg (AF.c AN.1), .one (lst 3 AG.c AN.2)]))
theorem OZ  : Bo Try.prog 19 (Dh ).2.1 (.tup [.agg (AF.c AN.1), .one (lst 3 AG.c AN.2)]) := by
 refine AX Try.func19 rfl kr kr fun W0 M0 => ?_
 refine AC <| rn ⟨[(0, tP 0 0)], [(0, Z1c)]⟩ <| AC ?_
 refine rc [(5, Gy (AE.mk 0 0) 5), (8, E8 (An.mk 10 (-3) 20 3))] [Al (Gy (AE.mk 0 0) 5).2.1, Al (E8 (An.mk 10 (-3) 20 3)).2.1] ⟨[(0, tP 0 0), (2, tP 2 0)], [(0, Z1c), (2, Z1d)]⟩ (.cons (Pb (AE.mk 0 0) 5) (.cons (Jb (An.mk 10 (-3) 20 3)) .nil)) (.cons rfl (.cons rfl .nil)) <| AJ <| AC ?_
 refine rn ⟨[(0, tP 0 0), (2, tP 2 0), (3, tP 3 0)], [(0, Z1c), (2, Z1d), (3, .cells [.i 2, .i 0, vN, .i 0, .list true 7 2 (A0 7 2 [.i 7, .s ({ data := #[85, 49] } : ByteArray), .s ({ data := #[84] } : ByteArray), .i 100, .i 50, .i 1, .b false, .i 3, .s ({ data := #[85, 50] } : ByteArray), .s ({ data := #[84] } : ByteArray), .i 0, .i 0, .i 0, .b true]), vN, vN, vN, vN, vN, vN, vN, vN, vN, vN] 42)]⟩ <| AC ?_
 refine rn ⟨[(0, tP 0 0), (2, tP 2 0), (3, tP 3 0)], [(0, Z1c), (2, Z1d), (3, Z1e)]⟩ <| AC ?_
 refine dw [] [] [] ⟨[(0, tP 0 0), (1, .av (.one (.list true 3 1 (A0 3 1 [.s ({ data := #[84] } : ByteArray), .list true 7 2 (A0 7 2 [.s ({ data := #[65] } : ByteArray), .i (DB (AE.mk 0 0) 5).Kind, lst 7 AH.c (DB (AE.mk 0 0) 5).Edges, .i (DB (AE.mk 0 0) 5).R, .i 0, .i 0, .i 4, .s ({ data := #[66] } : ByteArray), .i (Ce (An.mk 10 (-3) 20 3)).Kind, lst 7 AH.c (Ce (An.mk 10 (-3) 20 3)).Edges, .i (Ce (An.mk 10 (-3) 20 3)).R, .i 15, .i 0, .i 0]), vN]))))], [(0, Z1e)]⟩ .nil .nil <| AJ <| Aj ?_
 exact ⟨_, Cv.refl _, .inl rfl, .tup [.agg [.i 2, .i 0, vN, .i 0, .list true 7 2 (A0 7 2 [.i 7, .s ({ data := #[85, 49] } : ByteArray), .s ({ data := #[84] } : ByteArray), .i 100, .i 50, .i 1, .b false, .i 3, .s ({ data := #[85, 50] } : ByteArray), .s ({ data := #[84] } : ByteArray), .i 0, .i 0, .i 0, .b true]), .list true 2 1 (A0 2 1 [.s ({ data := #[78] } : ByteArray), .list true 2 2 (A0 2 2 [.s ({ data := #[85, 49] } : ByteArray), .s ({ data := #[66] } : ByteArray), .s ({ data := #[85, 50] } : ByteArray), .s ({ data := #[65] } : ByteArray)])]), vN, vN, vN, vN, vN, vN, vN, vN, vN], .one (.list true 3 1 (A0 3 1 [.s ({ data := #[84] } : ByteArray), .list true 7 2 (A0 7 2 [.s ({ data := #[65] } : ByteArray), .i (DB (AE.mk 0 0) 5).Kind, lst 7 AH.c (DB (AE.mk 0 0) 5).Edges, .i (DB (AE.mk 0 0) 5).R, .i 0, .i 0, .i 4, .s ({ data := #[66] } : ByteArray), .i (Ce (An.mk 10 (-3) 20 3)).Kind, lst 7 AH.c (Ce (An.mk 10 (-3) 20 3)).Edges, .i (Ce (An.mk 10 (-3) 20 3)).R, .i 15, .i 0, .i 0]), vN]))], by kernel_rfl, DG (y := .tup [.agg [.i 2, .i 0, lst 7 AH.c [], .i 0, lst 7 AD.c [AD.mk 7 ({ data := #[85, 49] } : ByteArray) ({ data := #[84] } : ByteArray) (AE.mk 100 50) 1 false, AD.mk 3 ({ data := #[85, 50] } : ByteArray) ({ data := #[84] } : ByteArray) (AE.mk 0 0) 0 true], lst 2 Ad.c [Ad.mk ({ data := #[78] } : ByteArray) [AR.mk ({ data := #[85, 49] } : ByteArray) ({ data := #[66] } : ByteArray), AR.mk ({ data := #[85, 50] } : ByteArray) ({ data := #[65] } : ByteArray)]], lst 6 Am.c [], lst 8 BS.c [], lst 8 A5.c [], lst 5 BG.c [], lst 4 BW.c [], lst 2 Bj.c [], lst 20 A4.c [], lst 3 Bf.c [], lst 3 CE.c []], .one (lst 3 AG.c [AG.mk ({ data := #[84] } : ByteArray) [Ap.mk ({ data := #[65] } : ByteArray) (DB (AE.mk 0 0) 5) (AE.mk 0 0) 4, Ap.mk ({ data := #[66] } : ByteArray) (Ce (An.mk 10 (-3) 20 3)) (AE.mk 15 0) 0] []])]) (.tup (.cons (.agg (rr (rr (.cons (A8 7 AH.c) (rr (.cons (Bt true (A2 (c := AD.c) (xs := ([AD.mk 7 ({ data := #[85, 49] } : ByteArray) ({ data := #[84] } : ByteArray) (AE.mk 100 50) 1 false, AD.mk 3 ({ data := #[85, 50] } : ByteArray) ({ data := #[84] } : ByteArray) (AE.mk 0 0) 0 true] : List AD)) rfl kr)) (.cons (Bt true (Dl (c := Ad.c) (xs := ([Ad.mk ({ data := #[78] } : ByteArray) [AR.mk ({ data := #[85, 49] } : ByteArray) ({ data := #[66] } : ByteArray), AR.mk ({ data := #[85, 50] } : ByteArray) ({ data := #[65] } : ByteArray)]] : List Ad)) (y := [[.s ({ data := #[78] } : ByteArray), .list true 2 2 (A0 2 2 [.s ({ data := #[85, 49] } : ByteArray), .s ({ data := #[66] } : ByteArray), .s ({ data := #[85, 50] } : ByteArray), .s ({ data := #[65] } : ByteArray)])]]) (z := [[.s ({ data := #[78] } : ByteArray), lst 2 AR.c [AR.mk ({ data := #[85, 49] } : ByteArray) ({ data := #[66] } : ByteArray), AR.mk ({ data := #[85, 50] } : ByteArray) ({ data := #[65] } : ByteArray)]]]) rfl kr kr (.cons (rr (.cons (Bt true (A2 (c := AR.c) (xs := ([AR.mk ({ data := #[85, 49] } : ByteArray) ({ data := #[66] } : ByteArray), AR.mk ({ data := #[85, 50] } : ByteArray) ({ data := #[65] } : ByteArray)] : List AR)) rfl kr)) .nil)) .nil))) (.cons (A8 6 Am.c) (.cons (A8 8 BS.c) (.cons (A8 8 A5.c) (.cons (A8 5 BG.c) (.cons (A8 4 BW.c) (.cons (A8 2 Bj.c) (.cons (A8 20 A4.c) (.cons (A8 3 Bf.c) (.cons (A8 3 CE.c) .nil)))))))))))))))) (.cons (.one (Bt true (Dl (c := AG.c) (xs := ([AG.mk ({ data := #[84] } : ByteArray) [Ap.mk ({ data := #[65] } : ByteArray) (DB (AE.mk 0 0) 5) (AE.mk 0 0) 4, Ap.mk ({ data := #[66] } : ByteArray) (Ce (An.mk 10 (-3) 20 3)) (AE.mk 15 0) 0] []] : List AG)) (y := [[.s ({ data := #[84] } : ByteArray), .list true 7 2 (A0 7 2 [.s ({ data := #[65] } : ByteArray), .i (DB (AE.mk 0 0) 5).Kind, lst 7 AH.c (DB (AE.mk 0 0) 5).Edges, .i (DB (AE.mk 0 0) 5).R, .i 0, .i 0, .i 4, .s ({ data := #[66] } : ByteArray), .i (Ce (An.mk 10 (-3) 20 3)).Kind, lst 7 AH.c (Ce (An.mk 10 (-3) 20 3)).Edges, .i (Ce (An.mk 10 (-3) 20 3)).R, .i 15, .i 0, .i 0]), vN]]) (z := [[.s ({ data := #[84] } : ByteArray), lst 7 Ap.c [Ap.mk ({ data := #[65] } : ByteArray) (DB (AE.mk 0 0) 5) (AE.mk 0 0) 4, Ap.mk ({ data := #[66] } : ByteArray) (Ce (An.mk 10 (-3) 20 3)) (AE.mk 15 0) 0], lst 2 As.c []]]) rfl kr kr (.cons (rr (.cons (Bt true (A2 (c := Ap.c) (xs := ([Ap.mk ({ data := #[65] } : ByteArray) (DB (AE.mk 0 0) 5) (AE.mk 0 0) 4, Ap.mk ({ data := #[66] } : ByteArray) (Ce (An.mk 10 (-3) 20 3)) (AE.mk 15 0) 0] : List Ap)) rfl kr)) (.cons (A8 2 As.c) .nil))) .nil)))) .nil))) (by rfl)⟩
theorem JD  : A1 Try.prog (Dh ).1 (Dh ).2.1 (Dh ).2.2 := Aa (fun _ _ => kr) fun _ => OZ
def Lo (x : Ar) (id_ : Int) (pad : ByteArray) (net : ByteArray) (from_ : Int) (to_ : Int) : Bool := bif bif bif bif bif decide ((x.Id : Int) = id_) then (x.Pad.toList == pad.toList) else false then (x.Net.toList == net.toList) else false then decide ((x.From : Int) = from_) else false then decide ((x.To : Int) = to_) else false then decide ((x.Kind : Int) = 1) else false
def Gh (x : Ar) (id_ : Int) (pad : ByteArray) (net : ByteArray) (from_ : Int) (to_ : Int) : FuncId × List Av × Ef := (21, [.agg (Ar.c x), .one (.i id_), .one (.s pad), .one (.s net), .one (.i from_), .one (.i to_)], .val [] (.av (.one (.b (Lo x id_ pad net from_ to_)))))
theorem pis18 (x : Ar) (id_ : Int) (pad : ByteArray) (net : ByteArray) (from_ : Int) (to_ : Int) : Bo Try.prog 21 (Gh x id_ pad net from_ to_).2.1 (tO (.b (Lo x id_ pad net from_ to_))) := by
 refine AX Try.func21 rfl kr kr fun W0 M0 => ?_
 refine AC <| rn ⟨[(1, tI id_), (2, tO (.s pad)), (3, tO (.s net)), (4, tI from_), (5, tI to_), (6, tP 6 0)], [(6, .cells (Ar.c x) 63)]⟩ <| AC ?_
 refine rc [] [((decide ((x.Id : Int) = id_)) = true) -> ((decide ((x.Id : Int) = id_)) = true), ((decide ((x.Id : Int) = id_)) = true) -> ((decide ((x.Id : Int) = id_)) = true), ((decide ((x.Id : Int) = id_)) = true) -> ((decide ((x.Id : Int) = id_)) = true), (decide ((x.Id : Int) = id_)) = true -> ((decide ((x.Id : Int) = id_)) = true), ((bif decide ((x.Id : Int) = id_) then (x.Pad.toList == pad.toList) else false) = true) -> ((bif decide ((x.Id : Int) = id_) then (x.Pad.toList == pad.toList) else false) = true), ((bif decide ((x.Id : Int) = id_) then (x.Pad.toList == pad.toList) else false) = true) -> ((bif decide ((x.Id : Int) = id_) then (x.Pad.toList == pad.toList) else false) = true), ((bif decide ((x.Id : Int) = id_) then (x.Pad.toList == pad.toList) else false) = true) -> ((bif decide ((x.Id : Int) = id_) then (x.Pad.toList == pad.toList) else false) = true), (bif decide ((x.Id : Int) = id_) then (x.Pad.toList == pad.toList) else false) = true -> ((bif decide ((x.Id : Int) = id_) then (x.Pad.toList == pad.toList) else false) = true), ((bif bif decide ((x.Id : Int) = id_) then (x.Pad.toList == pad.toList) else false then (x.Net.toList == net.toList) else false) = true) -> ((bif bif decide ((x.Id : Int) = id_) then (x.Pad.toList == pad.toList) else false then (x.Net.toList == net.toList) else false) = true), ((bif bif decide ((x.Id : Int) = id_) then (x.Pad.toList == pad.toList) else false then (x.Net.toList == net.toList) else false) = true) -> ((bif bif decide ((x.Id : Int) = id_) then (x.Pad.toList == pad.toList) else false then (x.Net.toList == net.toList) else false) = true), ((bif bif decide ((x.Id : Int) = id_) then (x.Pad.toList == pad.toList) else false then (x.Net.toList == net.toList) else false) = true) -> ((bif bif decide ((x.Id : Int) = id_) then (x.Pad.toList == pad.toList) else false then (x.Net.toList == net.toList) else false) = true), (bif bif decide ((x.Id : Int) = id_) then (x.Pad.toList == pad.toList) else false then (x.Net.toList == net.toList) else false) = true -> ((bif bif decide ((x.Id : Int) = id_) then (x.Pad.toList == pad.toList) else false then (x.Net.toList == net.toList) else false) = true), ((bif bif bif decide ((x.Id : Int) = id_) then (x.Pad.toList == pad.toList) else false then (x.Net.toList == net.toList) else false then decide ((x.From : Int) = from_) else false) = true) -> ((bif bif bif decide ((x.Id : Int) = id_) then (x.Pad.toList == pad.toList) else false then (x.Net.toList == net.toList) else false then decide ((x.From : Int) = from_) else false) = true), ((bif bif bif decide ((x.Id : Int) = id_) then (x.Pad.toList == pad.toList) else false then (x.Net.toList == net.toList) else false then decide ((x.From : Int) = from_) else false) = true) -> ((bif bif bif decide ((x.Id : Int) = id_) then (x.Pad.toList == pad.toList) else false then (x.Net.toList == net.toList) else false then decide ((x.From : Int) = from_) else false) = true), ((bif bif bif decide ((x.Id : Int) = id_) then (x.Pad.toList == pad.toList) else false then (x.Net.toList == net.toList) else false then decide ((x.From : Int) = from_) else false) = true) -> ((bif bif bif decide ((x.Id : Int) = id_) then (x.Pad.toList == pad.toList) else false then (x.Net.toList == net.toList) else false then decide ((x.From : Int) = from_) else false) = true), (bif bif bif decide ((x.Id : Int) = id_) then (x.Pad.toList == pad.toList) else false then (x.Net.toList == net.toList) else false then decide ((x.From : Int) = from_) else false) = true -> ((bif bif bif decide ((x.Id : Int) = id_) then (x.Pad.toList == pad.toList) else false then (x.Net.toList == net.toList) else false then decide ((x.From : Int) = from_) else false) = true), ((bif bif bif bif decide ((x.Id : Int) = id_) then (x.Pad.toList == pad.toList) else false then (x.Net.toList == net.toList) else false then decide ((x.From : Int) = from_) else false then decide ((x.To : Int) = to_) else false) = true) -> ((bif bif bif bif decide ((x.Id : Int) = id_) then (x.Pad.toList == pad.toList) else false then (x.Net.toList == net.toList) else false then decide ((x.From : Int) = from_) else false then decide ((x.To : Int) = to_) else false) = true), ((bif bif bif bif decide ((x.Id : Int) = id_) then (x.Pad.toList == pad.toList) else false then (x.Net.toList == net.toList) else false then decide ((x.From : Int) = from_) else false then decide ((x.To : Int) = to_) else false) = true) -> ((bif bif bif bif decide ((x.Id : Int) = id_) then (x.Pad.toList == pad.toList) else false then (x.Net.toList == net.toList) else false then decide ((x.From : Int) = from_) else false then decide ((x.To : Int) = to_) else false) = true), (bif bif bif bif decide ((x.Id : Int) = id_) then (x.Pad.toList == pad.toList) else false then (x.Net.toList == net.toList) else false then decide ((x.From : Int) = from_) else false then decide ((x.To : Int) = to_) else false) = true -> ((bif bif bif bif decide ((x.Id : Int) = id_) then (x.Pad.toList == pad.toList) else false then (x.Net.toList == net.toList) else false then decide ((x.From : Int) = from_) else false then decide ((x.To : Int) = to_) else false) = true)] ⟨[(12, tB (bif bif bif bif bif decide ((x.Id : Int) = id_) then (x.Pad.toList == pad.toList) else false then (x.Net.toList == net.toList) else false then decide ((x.From : Int) = from_) else false then decide ((x.To : Int) = to_) else false then decide ((x.Kind : Int) = 1) else false))], []⟩ .nil (.cons id (.cons id (.cons id (.cons id (.cons id (.cons id (.cons id (.cons id (.cons id (.cons id (.cons id (.cons id (.cons id (.cons id (.cons id (.cons id (.cons id (.cons id (.cons id .nil))))))))))))))))))) <| AJ <| Aj ?_
 exact ⟨_, Cv.refl _, .inl rfl, tO (.b (bif bif bif bif bif decide ((x.Id : Int) = id_) then (x.Pad.toList == pad.toList) else false then (x.Net.toList == net.toList) else false then decide ((x.From : Int) = from_) else false then decide ((x.To : Int) = to_) else false then decide ((x.Kind : Int) = 1) else false)), by kernel_rfl, Ao (by rfl)⟩
theorem L8 (x : Ar) (id_ : Int) (pad : ByteArray) (net : ByteArray) (from_ : Int) (to_ : Int) : A1 Try.prog (Gh x id_ pad net from_ to_).1 (Gh x id_ pad net from_ to_).2.1 (Gh x id_ pad net from_ to_).2.2 := Aa (fun _ _ => kr) fun _ => pis18 x id_ pad net from_ to_
theorem SL : B1 AN.2 := by
 refine ⟨by decide, fun t ht => ?_⟩
 rw [show AN.2 = [AN.2.getD 0 default] from rfl, List.mem_singleton] at ht
 subst ht
 refine ⟨by decide, by decide, fun p hp => ?_, fun g hg => by cases hg⟩
 have hl : (AN.2.getD 0 default).Pads = [(AN.2.getD 0 default).Pads.getD 0 default, (AN.2.getD 0 default).Pads.getD 1 default] := rfl
 rw [hl] at hp
 simp only [List.mem_cons, List.not_mem_nil, or_false] at hp
 rcases hp with rfl | rfl <;> (unfold N2; decide)
theorem Tp : ∀ n ∈ AN.1.Nets, (n.Pins.length : Int) <= 1000000 := by
 intro n hn
 rw [show AN.1.Nets = [AN.1.Nets.getD 0 default] from rfl, List.mem_singleton] at hn
 subst hn
 decide
def Z1f (ref : ByteArray) (pad : ByteArray) : AE := (FAt AN.1 AN.2 (AR.mk ref pad)).1
def Z1g (ref : ByteArray) (pad : ByteArray) : Bool := (FAt AN.1 AN.2 (AR.mk ref pad)).2.2
def Lp (ref : ByteArray) (pad : ByteArray) (x : Int) (y : Int) (layer : Int) : Bool := bif bif ((Z1g ref pad) == (decide ((0 : Int) < layer))) then (decide ((Z1f ref pad).X = x) && (decide ((Z1f ref pad).Y = y) && true)) else false then decide (((FAt AN.1 AN.2 (AR.mk ref pad)).2.1 : Int) = layer) else false
def Gi (ref : ByteArray) (pad : ByteArray) (x : Int) (y : Int) (layer : Int) : FuncId × List Av × Ef := (23, [.one (.s ref), .one (.s pad), .one (.i x), .one (.i y), .one (.i layer)], .val [] (.av (.one (.b (Lp ref pad x y layer)))))
theorem au16 {p : Prop} (h : p := by first | (exact SL) | (exact Tp) | (decide +kernel) | with_reducible assumption | omega | decide | (simp only [List.length_cons, List.length_nil, List.length_append]; omega) | assumption) : p := h
theorem pat18 (ref : ByteArray) (pad : ByteArray) (x : Int) (y : Int) (layer : Int) : Bo Try.prog 23 (Gi ref pad x y layer).2.1 (tO (.b (Lp ref pad x y layer))) := by
 refine AX Try.func23 rfl kr kr fun W0 M0 => ?_
 refine AC <| rn ⟨[(0, tO (.s ref)), (1, tO (.s pad)), (2, tI x), (3, tI y), (4, tI layer)], []⟩ <| AC ?_
 refine rc [(17, Dh)] [Al Dh.2.1] ⟨[(0, tO (.s ref)), (1, tO (.s pad)), (2, tI x), (3, tI y), (4, tI layer), (11, tP 11 0), (12, tO (lst 3 AG.c AN.2))], [(11, .cells (AF.c AN.1) 42)]⟩ (.cons JD .nil) (.cons rfl .nil) <| AJ <| AC ?_
 refine rc [(26, ceI [.agg (AF.c AN.1), .one (lst 3 AG.c AN.2), .agg [.s ref, .s pad]] (cAt AN.1 AN.2 (AR.mk ref pad)))] [Al (ceI [.agg (AF.c AN.1), .one (lst 3 AG.c AN.2), .agg [.s ref, .s pad]] (cAt AN.1 AN.2 (AR.mk ref pad))).2.1] ⟨[(2, tI x), (3, tI y), (4, tI layer), (13, tP 13 0), (14, tI (FAt AN.1 AN.2 (AR.mk ref pad)).2.1), (15, tB (Z1g ref pad))], [(13, .cells (AE.c (Z1f ref pad)) 52)]⟩ (.cons (Cg (okAt AN.1 AN.2 (AR.mk ref pad) au16 au16) (.cons (.agg (rr (rr (rr (rr (rr (rr (rr (rr (rr (rr (rr (rr (.cons (.any _) (rr (rr .nil)))))))))))))))) (.cons (AvE.refl _) (.cons (AvE.refl _) .nil)))) .nil) (.cons rfl .nil) <| AJ <| AC ?_
 refine rc [] [(((Z1g ref pad) == (decide ((0 : Int) < layer))) = true) -> (((Z1g ref pad) == (decide ((0 : Int) < layer))) = true), (((Z1g ref pad) == (decide ((0 : Int) < layer))) = true) -> (((Z1g ref pad) == (decide ((0 : Int) < layer))) = true), (((Z1g ref pad) == (decide ((0 : Int) < layer))) = true) -> (((Z1g ref pad) == (decide ((0 : Int) < layer))) = true), (((Z1g ref pad) == (decide ((0 : Int) < layer))) = true) -> (((Z1g ref pad) == (decide ((0 : Int) < layer))) = true), ((Z1g ref pad) == (decide ((0 : Int) < layer))) = true -> (((Z1g ref pad) == (decide ((0 : Int) < layer))) = true), ((bif ((Z1g ref pad) == (decide ((0 : Int) < layer))) then (decide ((Z1f ref pad).X = x) && (decide ((Z1f ref pad).Y = y) && true)) else false) = true) -> ((bif ((Z1g ref pad) == (decide ((0 : Int) < layer))) then (decide ((Z1f ref pad).X = x) && (decide ((Z1f ref pad).Y = y) && true)) else false) = true), ((bif ((Z1g ref pad) == (decide ((0 : Int) < layer))) then (decide ((Z1f ref pad).X = x) && (decide ((Z1f ref pad).Y = y) && true)) else false) = true) -> ((bif ((Z1g ref pad) == (decide ((0 : Int) < layer))) then (decide ((Z1f ref pad).X = x) && (decide ((Z1f ref pad).Y = y) && true)) else false) = true), (bif ((Z1g ref pad) == (decide ((0 : Int) < layer))) then (decide ((Z1f ref pad).X = x) && (decide ((Z1f ref pad).Y = y) && true)) else false) = true -> ((bif ((Z1g ref pad) == (decide ((0 : Int) < layer))) then (decide ((Z1f ref pad).X = x) && (decide ((Z1f ref pad).Y = y) && true)) else false) = true)] ⟨[(10, tB (bif bif ((Z1g ref pad) == (decide ((0 : Int) < layer))) then (decide ((Z1f ref pad).X = x) && (decide ((Z1f ref pad).Y = y) && true)) else false then decide (((FAt AN.1 AN.2 (AR.mk ref pad)).2.1 : Int) = layer) else false))], []⟩ .nil (.cons id (.cons id (.cons id (.cons id (.cons id (.cons id (.cons id (.cons id .nil)))))))) <| AJ <| Aj ?_
 exact ⟨_, Cv.refl _, .inl rfl, tO (.b (bif bif ((Z1g ref pad) == (decide ((0 : Int) < layer))) then (decide ((Z1f ref pad).X = x) && (decide ((Z1f ref pad).Y = y) && true)) else false then decide (((FAt AN.1 AN.2 (AR.mk ref pad)).2.1 : Int) = layer) else false)), by kernel_rfl, Ao (by rfl)⟩
theorem L9 (ref : ByteArray) (pad : ByteArray) (x : Int) (y : Int) (layer : Int) : A1 Try.prog (Gi ref pad x y layer).1 (Gi ref pad x y layer).2.1 (Gi ref pad x y layer).2.2 := Aa (fun _ _ => kr) fun _ => pat18 ref pad x y layer
def Z1h : Tv := .av (.one (lst 9 Ar.c (B3 AN.1 AN.2)))
def Z1i : Bool := !decide ((((B3 AN.1 AN.2).length : Int) : Int) = 4)
def Z1j : Bool := bif Z1i then true else !(decide ((Bs (AN.1.Parts.getD 1 default)).At.X = 0) && (decide ((Bs (AN.1.Parts.getD 1 default)).At.Y = 0) && (decide ((Bs (AN.1.Parts.getD 1 default)).Turn = 0) && (((Bs (AN.1.Parts.getD 1 default)).Mirror == true) && true))))
def Z1k : Ar := (B3 AN.1 AN.2).getD 0 default
def Z1l : Bool := Lo Z1k 3 ({ data := #[65] } : ByteArray) ({ data := #[78] } : ByteArray) 1 2
def Z1m : Bool := bif Z1l then Lo ((B3 AN.1 AN.2).getD 1 default) 3 ({ data := #[66] } : ByteArray) ({ data := #[] } : ByteArray) 2 2 else false
def Z1n : Bool := bif Z1m then Lo ((B3 AN.1 AN.2).getD 2 default) 7 ({ data := #[65] } : ByteArray) ({ data := #[] } : ByteArray) 1 2 else false
def Z1o : Bool := bif Z1n then Lo ((B3 AN.1 AN.2).getD 3 default) 7 ({ data := #[66] } : ByteArray) ({ data := #[78] } : ByteArray) 1 1 else false
def Z1p : Bool := bif Z1o then (decide ((Mo ((B3 AN.1 AN.2).getD 3 default).Shape).X0 = 97) && (decide ((Mo ((B3 AN.1 AN.2).getD 3 default).Shape).Y0 = 60) && (decide ((Mo ((B3 AN.1 AN.2).getD 3 default).Shape).X1 = 103) && (decide ((Mo ((B3 AN.1 AN.2).getD 3 default).Shape).Y1 = 70) && true)))) else false
def Z1q : Bool := bif Z1p then Lp ({ data := #[85, 49] } : ByteArray) ({ data := #[66] } : ByteArray) 100 65 1 else false
def Z1r : Bool := bif Z1q then Lp ({ data := #[85, 50] } : ByteArray) ({ data := #[66] } : ByteArray) (-15) 0 2 else false
def Z1s : Bool := bif Z1r then Lp ({ data := #[85, 51] } : ByteArray) ({ data := #[65] } : ByteArray) 0 0 0 else false
def Z1t : Bool := bif Z1s then Lp ({ data := #[85, 49] } : ByteArray) ({ data := #[67] } : ByteArray) 0 0 0 else false
def Az : Bool := bif Z1j then false else Z1t
def FL : FuncId × List Av × Ef := (7, [], .val [] (.av (.one (.b Az))))
theorem QF  : Bo Try.prog 7 (FL ).2.1 (tO (.b Az)) := by
 refine AX Try.func7 rfl kr kr fun W0 M0 => ?_
 refine AC <| rn ⟨[], []⟩ <| AC ?_
 refine rc [(6, Dh)] [Al Dh.2.1] ⟨[(1, tP 1 0), (2, tO (lst 3 AG.c AN.2))], [(1, .cells (AF.c AN.1) 42)]⟩ (.cons JD .nil) (.cons rfl .nil) <| AJ <| AC ?_
 refine rc [(11, ceI [.agg (AF.c AN.1), .one (lst 3 AG.c AN.2)] (H0 AN.1 AN.2))] [Al (ceI [.agg (AF.c AN.1), .one (lst 3 AG.c AN.2)] (H0 AN.1 AN.2)).2.1] ⟨[(1, tP 1 0), (3, Z1h)], [(1, .cells (AF.c AN.1) 42)]⟩ (.cons (Cg (Pa AN.1 AN.2 au16 au16 au16 au16 au16) (.cons (.agg (rr (rr (rr (rr (rr (rr (rr (rr (rr (rr (rr (rr (.cons (.any _) (rr (rr .nil)))))))))))))))) (.cons (AvE.refl _) .nil))) .nil) (.cons rfl .nil) <| AJ ?_
 refine AC <| AC ?_
 refine rc [(20, Es (AN.1.Parts.getD 1 default))] [(Z1i = false) -> (Z1i = false), (Z1i = false) -> (Z1i = false), (Z1i = false) -> (0 <= (1 : Int) /\ (1 : Int) < ((AN.1.Parts.length : Nat) : Int)), (Z1i = false) -> (Z1i = false), (Z1i = false) -> (Z1i = false), (Z1i = false) -> (Al (Es (AN.1.Parts.getD 1 default)).2.1), (Z1i = false) -> (Z1i = false), (Z1i = false) -> (Z1i = false), Z1i = false -> (Z1i = false)] ⟨[(3, Z1h), (23, tB Z1j)], []⟩ (.cons (J9 (AN.1.Parts.getD 1 default)) .nil) (.cons id (.cons id (.cons (fun hG => by first | exact (by decide +kernel) | (simp only [decide_eq_true_eq, decide_eq_false_iff_not, Bool.not_eq_true, Bool.and_eq_true] at hG <;> omega) | (simp at hG <;> omega) | (simp only [decide_eq_true_eq, decide_eq_false_iff_not] at hG; simp only [C1]; omega)) (.cons id (.cons id (.cons (fun _ => rfl) (.cons id (.cons id (.cons id .nil))))))))) <| AJ ?_
 refine Ae _ rfl (fun h1 => ?_) (fun h1 => ?_)
 ·refine AC <| rn ⟨[(0, tB false)], []⟩ ?_
  refine Aj <| BO ?_
  exact ⟨_, Cv.refl _, .inl rfl, tO (.b false), by kernel_rfl, Ao (by first | (simp only [Az, h1, cond_true, cond_false] <;> rfl))⟩
 ·refine Ak <| AJ <| AC ?_
  refine rc [(27, Gh Z1k 3 ({ data := #[65] } : ByteArray) ({ data := #[78] } : ByteArray) 1 2), (32, Gh ((B3 AN.1 AN.2).getD 1 default) 3 ({ data := #[66] } : ByteArray) ({ data := #[] } : ByteArray) 2 2), (38, Gh ((B3 AN.1 AN.2).getD 2 default) 7 ({ data := #[65] } : ByteArray) ({ data := #[] } : ByteArray) 1 2), (44, Gh ((B3 AN.1 AN.2).getD 3 default) 7 ({ data := #[66] } : ByteArray) ({ data := #[78] } : ByteArray) 1 1)] [0 <= (0 : Int) /\ (0 : Int) < (((B3 AN.1 AN.2).length : Nat) : Int), Al (Gh Z1k 3 ({ data := #[65] } : ByteArray) ({ data := #[78] } : ByteArray) 1 2).2.1, (Z1l = true) -> (Z1l = true), (Z1l = true) -> (0 <= (1 : Int) /\ (1 : Int) < (((B3 AN.1 AN.2).length : Nat) : Int)), (Z1l = true) -> (Z1l = true), (Z1l = true) -> (Z1l = true), (Z1l = true) -> (Al (Gh ((B3 AN.1 AN.2).getD 1 default) 3 ({ data := #[66] } : ByteArray) ({ data := #[] } : ByteArray) 2 2).2.1), Z1l = true -> (Z1l = true), (Z1m = true) -> (Z1m = true), (Z1m = true) -> (0 <= (2 : Int) /\ (2 : Int) < (((B3 AN.1 AN.2).length : Nat) : Int)), (Z1m = true) -> (Z1m = true), (Z1m = true) -> (Z1m = true), (Z1m = true) -> (Al (Gh ((B3 AN.1 AN.2).getD 2 default) 7 ({ data := #[65] } : ByteArray) ({ data := #[] } : ByteArray) 1 2).2.1), Z1m = true -> (Z1m = true), (Z1n = true) -> (Z1n = true), (Z1n = true) -> (0 <= (3 : Int) /\ (3 : Int) < (((B3 AN.1 AN.2).length : Nat) : Int)), (Z1n = true) -> (Z1n = true), (Z1n = true) -> (Z1n = true), (Z1n = true) -> (Al (Gh ((B3 AN.1 AN.2).getD 3 default) 7 ({ data := #[66] } : ByteArray) ({ data := #[78] } : ByteArray) 1 1).2.1), Z1n = true -> (Z1n = true)] ⟨[(3, Z1h), (4, tB Z1o)], []⟩ (.cons (L8 Z1k 3 ({ data := #[65] } : ByteArray) ({ data := #[78] } : ByteArray) 1 2) (.cons (L8 ((B3 AN.1 AN.2).getD 1 default) 3 ({ data := #[66] } : ByteArray) ({ data := #[] } : ByteArray) 2 2) (.cons (L8 ((B3 AN.1 AN.2).getD 2 default) 7 ({ data := #[65] } : ByteArray) ({ data := #[] } : ByteArray) 1 2) (.cons (L8 ((B3 AN.1 AN.2).getD 3 default) 7 ({ data := #[66] } : ByteArray) ({ data := #[78] } : ByteArray) 1 1) .nil)))) (.cons (by decide +kernel) (.cons rfl (.cons id (.cons (fun hG => by first | exact (by decide +kernel) | (simp only [decide_eq_true_eq, decide_eq_false_iff_not, Bool.not_eq_true, Bool.and_eq_true] at hG <;> omega) | (simp at hG <;> omega) | (simp only [decide_eq_true_eq, decide_eq_false_iff_not] at hG; simp only [C1]; omega)) (.cons id (.cons id (.cons (fun _ => rfl) (.cons id (.cons id (.cons (fun hG => by first | exact (by decide +kernel) | (simp only [decide_eq_true_eq, decide_eq_false_iff_not, Bool.not_eq_true, Bool.and_eq_true] at hG <;> omega) | (simp at hG <;> omega) | (simp only [decide_eq_true_eq, decide_eq_false_iff_not] at hG; simp only [C1]; omega)) (.cons id (.cons id (.cons (fun _ => rfl) (.cons id (.cons id (.cons (fun hG => by first | exact (by decide +kernel) | (simp only [decide_eq_true_eq, decide_eq_false_iff_not, Bool.not_eq_true, Bool.and_eq_true] at hG <;> omega) | (simp at hG <;> omega) | (simp only [decide_eq_true_eq, decide_eq_false_iff_not] at hG; simp only [C1]; omega)) (.cons id (.cons id (.cons (fun _ => rfl) (.cons id .nil)))))))))))))))))))) <| AJ <| AC ?_
  refine rc [(52, Qy ((B3 AN.1 AN.2).getD 3 default).Shape), (57, Gi ({ data := #[85, 49] } : ByteArray) ({ data := #[66] } : ByteArray) 100 65 1), (60, Gi ({ data := #[85, 50] } : ByteArray) ({ data := #[66] } : ByteArray) (-15) 0 2), (63, Gi ({ data := #[85, 51] } : ByteArray) ({ data := #[65] } : ByteArray) 0 0 0), (66, Gi ({ data := #[85, 49] } : ByteArray) ({ data := #[67] } : ByteArray) 0 0 0)] [(Z1o = true) -> (Z1o = true), (Z1o = true) -> (0 <= (3 : Int) /\ (3 : Int) < (((B3 AN.1 AN.2).length : Nat) : Int)), (Z1o = true) -> (Z1o = true), (Z1o = true) -> (Z1o = true), (Z1o = true) -> (Z1o = true), (Z1o = true) -> (Al (Qy ((B3 AN.1 AN.2).getD 3 default).Shape).2.1), (Z1o = true) -> (Z1o = true), (Z1o = true) -> (Z1o = true), Z1o = true -> (Z1o = true), (Z1p = true) -> (Al (Gi ({ data := #[85, 49] } : ByteArray) ({ data := #[66] } : ByteArray) 100 65 1).2.1), Z1p = true -> (Z1p = true), (Z1q = true) -> (Al (Gi ({ data := #[85, 50] } : ByteArray) ({ data := #[66] } : ByteArray) (-15) 0 2).2.1), Z1q = true -> (Z1q = true), (Z1r = true) -> (Al (Gi ({ data := #[85, 51] } : ByteArray) ({ data := #[65] } : ByteArray) 0 0 0).2.1), Z1r = true -> (Z1r = true), (Z1s = true) -> (Al (Gi ({ data := #[85, 49] } : ByteArray) ({ data := #[67] } : ByteArray) 0 0 0).2.1), Z1s = true -> (Z1s = true)] ⟨[(0, tB Z1t)], []⟩ (.cons (okBox ((B3 AN.1 AN.2).getD 3 default).Shape au16) (.cons (L9 ({ data := #[85, 49] } : ByteArray) ({ data := #[66] } : ByteArray) 100 65 1) (.cons (L9 ({ data := #[85, 50] } : ByteArray) ({ data := #[66] } : ByteArray) (-15) 0 2) (.cons (L9 ({ data := #[85, 51] } : ByteArray) ({ data := #[65] } : ByteArray) 0 0 0) (.cons (L9 ({ data := #[85, 49] } : ByteArray) ({ data := #[67] } : ByteArray) 0 0 0) .nil))))) (.cons id (.cons (fun hG => by first | exact (by decide +kernel) | (simp only [decide_eq_true_eq, decide_eq_false_iff_not, Bool.not_eq_true, Bool.and_eq_true] at hG <;> omega) | (simp at hG <;> omega) | (simp only [decide_eq_true_eq, decide_eq_false_iff_not] at hG; simp only [C1]; omega)) (.cons id (.cons id (.cons id (.cons (fun _ => rfl) (.cons id (.cons id (.cons id (.cons (fun _ => rfl) (.cons id (.cons (fun _ => rfl) (.cons id (.cons (fun _ => rfl) (.cons id (.cons (fun _ => rfl) (.cons id .nil))))))))))))))))) <| AJ <| Aj ?_
  exact ⟨_, Cv.refl _, .inl rfl, tO (.b Z1t), by kernel_rfl, Ao (by first | (simp only [Az, h1, cond_true, cond_false] <;> rfl))⟩
theorem Og  : A1 Try.prog (FL ).1 (FL ).2.1 (FL ).2.2 := Aa (fun _ _ => kr) fun _ => QF
theorem UO : Az = true := by decide +kernel
end
end Go.Proofs.Ytdbampcfmjbgmaa
