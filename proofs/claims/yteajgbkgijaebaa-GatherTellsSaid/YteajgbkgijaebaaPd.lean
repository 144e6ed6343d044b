/- What chapter 12's updates answer, and the laws on them. Conditions: none. -/
import Derived.Test.YteajgbkgijaebaaPc
set_option linter.unusedVariables false
set_option linter.unusedSimpArgs false
namespace Go.Proofs.Yteajgbkgijaebaa
open Go.Eng
def mxF (f g : Nat → Int) (n : Nat) : Nat → Int := fun j => if j < n ∧ f j < g j then g j else f j
theorem mxF_s (f g : Nat → Int) (n : Nat) : aupd (mxF f g n) n (if mxF f g n n < g n then g n else mxF f g n n) = mxF f g (n + 1) := by
  funext j
  by_cases hj : j = n
  · subst hj
    have e : mxF f g j j = f j := by simp [mxF]
    simp only [aupd, if_true, e]
    simp [mxF]
  · have : j < n + 1 ↔ j < n := by omega
    simp [aupd, mxF, hj, this]
theorem union_eq (a b : Nat → Int) : cut_Union [a, b] = some (mxF (mxF (fun _ => 0) a 8) b 8) := by
  have inner : ∀ (l : _root_.List (Nat → Int)) (i : Nat) (_ : i < l.length) (f : Nat → Int), (loop (ω := Fl ((Nat → Int)) ((Nat → Int))) (fun (x4 : Int × (Nat → Int)) =>
        if (decide (x4.1 < 8)) then
          (ib x4.1 8).bind fun _ =>
          (ib x4.1 8).bind fun _ =>
          (ib x4.1 8).bind fun _ =>
          lt (aupd x4.2 x4.1.toNat (if (x4.2 x4.1.toNat) < ((l.getD i (fun _ => 0)) x4.1.toNat) then (l.getD i (fun _ => 0)) x4.1.toNat else x4.2 x4.1.toNat) : (Nat → Int)) fun v9 =>
          some (.next ((IntKind.i64.wrap (x4.1 + 1)), v9))
        else
          some (.done (.nx (x4.2)))) (0, f)) = some (.nx (mxF f (l.getD i (fun _ => 0)) 8)) := by
    intro l i hi f
    refine loop_seq (fun n => ((n : Int), mxF f (l.getD i (fun _ => 0)) n)) 8 (Prod.ext rfl (funext fun j => by simp [mxF])) (fun n hn => ?_) (by simp)
    have hn' : (n : Int) < 8 := by omega
    have e1 : IntKind.i64.wrap ((n : Int) + 1) = ((n + 1 : Nat) : Int) := by rw [w64] <;> omega
    simp only [hn', decide_true, if_true, ib_n hn, Option.bind_some, Int.toNat_natCast, e1, lt, mxF_s]
  have e1 : IntKind.i64.wrap ((0 : Int) + 1) = 1 := by rw [w64] <;> omega
  have e2 : IntKind.i64.wrap ((1 : Int) + 1) = 2 := by rw [w64] <;> omega
  unfold cut_Union
  rw [loop_nx (s := (0, fun _ => 0)) (s' := (1, mxF (fun _ => 0) a 8)) (by
    have h := inner [a, b] 0 (by simp) (fun _ => 0)
    simp only [Int.toNat_zero, h, Option.bind_some, Fl.elim, e1]
    simp [ib])]
  rw [loop_nx (s := (1, mxF (fun _ => 0) a 8)) (s' := (2, mxF (mxF (fun _ => 0) a 8) b 8)) (by
    have h := inner [a, b] 1 (by simp) (mxF (fun _ => 0) a 8)
    simp only [show (1 : Int).toNat = 1 from rfl, h, Option.bind_some, Fl.elim, e2]
    simp [ib])]
  rw [loop_dn (s := (2, mxF (mxF (fun _ => 0) a 8) b 8)) (w := .nx (mxF (mxF (fun _ => 0) a 8) b 8)) (by simp)]
  simp only [Option.bind_some, Fl.elim]

theorem listF_in {f : Nat → Int} {n : Nat} {x : Int} : x ∈ listF f n ↔ ∃ j : Nat, x = (j : Int) ∧ j < n ∧ f j ≠ 0 := by
  simp only [listF, List.mem_map, List.mem_filter, List.mem_range]
  constructor
  · rintro ⟨j, ⟨h1, h2⟩, h3⟩; exact ⟨j, h3.symm, h1, by simpa using h2⟩
  · rintro ⟨j, rfl, h1, h2⟩; exact ⟨j, ⟨h1, by simpa using h2⟩, rfl⟩
def eachF (p0 : api_Core) (f : api_Peer → Bool) : Bool := (listF p0.Wanted 8).all fun x => !((x != p0.Self) && (((p0.Peers x.toNat).Inc != p0.Wanted x.toNat) || (!f (p0.Peers x.toNat))))
theorem each_eq (p0 : api_Core) (f : api_Peer → Bool) : gather_each p0 (fun z => some (f z)) = some (eachF p0 f) := by
  have hl := listF_len p0.Wanted 8
  unfold gather_each
  rw [list_eq]
  simp only [Option.bind_some]
  rw [seek (ρ := Bool) (listF p0.Wanted 8) (fun x => (x != p0.Self) && (((p0.Peers x.toNat).Inc != p0.Wanted x.toNat) || (!f (p0.Peers x.toNat)))) (fun _ => false) (fun n hn => by
    have hn' : (n : Int) < ((listF p0.Wanted 8).length : Int) := by omega
    have e1 : IntKind.i64.wrap ((n : Int) + 1) = ((n + 1 : Nat) : Int) := by rw [w64] <;> omega
    obtain ⟨j, hj, hj8, _⟩ := listF_in.1 (getD_in (d := (0 : Int)) hn)
    have ibt : ∀ g, ibg g (j : Int) 8 = some () := fun g => ibg_t (fun _ => by omega)
    simp only [hn', decide_true, if_true, ib_n hn, hj, ib_n hj8, ibt, Option.bind_some, Int.toNat_natCast, e1, lt, whn]
    by_cases h1 : (((j : Int) != p0.Self) && (!((p0.Peers j).Inc != p0.Wanted j))) = true
    · rw [if_pos h1]; rfl
    · rw [if_neg h1]
      simp only [Option.bind_some]
      have e2 : (((j : Int) != p0.Self) && (((p0.Peers j).Inc != p0.Wanted j) || (!false))) = (((j : Int) != p0.Self) && (((p0.Peers j).Inc != p0.Wanted j) || (!f (p0.Peers j)))) := by
        revert h1
        cases ((j : Int) != p0.Self) <;> cases ((p0.Peers j).Inc != p0.Wanted j) <;> simp
      rw [e2]) (by simp)]
  simp only [Option.bind_some]
  exact elim_all _ _
theorem all_eq (p0 : api_Core) : gather_All p0 = some (eachF p0 fun z => b_api_Id z.Promise p0.Promise) := by
  have e : (fun z0 => gather_All_1 z0 p0) = fun z => some (b_api_Id z.Promise p0.Promise) := rfl
  unfold gather_All
  rw [e, each_eq]; rfl
theorem done_eq (p0 : api_Core) : gather_Done p0 = some (eachF p0 fun z => ((b_api_Id z.Promise p0.Promise) && z.Ready) || (b_api_Id z.Conf p0.Promise)) := by
  have e : (fun z0 => gather_Done_1 z0 p0) = fun z => some (((b_api_Id z.Promise p0.Promise) && z.Ready) || (b_api_Id z.Conf p0.Promise)) := rfl
  unfold gather_Done
  rw [e, each_eq]; rfl
def standsF (p0 : api_Core) (p1 : Nat → Int) : Bool :=
  if ((((IntKind.i64.wrap (p0.Promise.Coord)) != p0.Self) || (p0.Promise.Inc != p0.Own)) || (!(b_a8_u32 p0.Wanted p1))) then false
  else (listF p1 8).all fun x => !((((x != p0.Self) && (((p0.Peers x.toNat).Inc) == (p1 x.toNat))) && (decide (cmpId (p0.Peers x.toNat).Promise p0.Promise > 0))))
theorem stands_eq (p0 : api_Core) (p1 : Nat → Int) : gather_stands p0 p1 = some (standsF p0 p1) := by
  have hl := listF_len p1 8
  unfold gather_stands standsF
  simp only [lt, list_eq, Option.bind_some]
  split
  · rfl
  rw [seek (ρ := Bool) (listF p1 8) (fun x => ((x != p0.Self) && (((p0.Peers x.toNat).Inc) == (p1 x.toNat))) && (decide (cmpId (p0.Peers x.toNat).Promise p0.Promise > 0))) (fun _ => false) (fun n hn => by
    have hn' : (n : Int) < ((listF p1 8).length : Int) := by omega
    have e1 : IntKind.i64.wrap ((n : Int) + 1) = ((n + 1 : Nat) : Int) := by rw [w64] <;> omega
    obtain ⟨j, hj, hj8, _⟩ := listF_in.1 (getD_in (d := (0 : Int)) hn)
    have ibt : ∀ g, ibg g (j : Int) 8 = some () := fun g => ibg_t (fun _ => by omega)
    simp only [hn', decide_true, if_true, ib_n hn, hj, ib_n hj8, ibt, Option.bind_some, Int.toNat_natCast, e1, cmp_eq, whn]
    by_cases h1 : (((j : Int) != p0.Self) && (((p0.Peers j).Inc) == (p1 j))) = true
    · rw [if_pos h1]; rfl
    · rw [if_neg h1]
      simp only [Bool.not_eq_true] at h1
      simp only [Option.bind_some, h1, Bool.false_and]) (by simp)]
  simp only [Option.bind_some]
  exact elim_all _ _
def propF (p0 : api_Core) (p1 : Nat → Int) : api_Id × Bool :=
  if ((((!(leastF p1).2) || ((leastF p1).1 != p0.Self)) || (p0.Epoch == 4294967295)) || standsF p0 p1) then ({ Epoch := 0, Coord := 0, Inc := 0 }, false)
  else ({ Epoch := (IntKind.u32.wrap (p0.Epoch + 1)), Coord := (IntKind.u32.wrap (p0.Self)), Inc := p0.Own }, true)
theorem prop_eq (p0 : api_Core) (p1 : Nat → Int) : gather_Propose p0 p1 = some (propF p0 p1) := by
  unfold gather_Propose propF
  simp only [least_eq, stands_eq, Option.bind_some, whn, lt]
  by_cases h : (((!(leastF p1).2) || ((leastF p1).1 != p0.Self)) || (p0.Epoch == 4294967295)) = true
  · simp only [h, Bool.not_true, Bool.false_eq_true, if_false, Option.bind_some, Bool.true_or, if_true]
  · simp only [Bool.not_eq_true] at h
    simp only [h, Bool.not_false, if_true, Option.bind_some, Bool.false_or]
    split <;> rfl
theorem fixed_eq : congresslaw12_fixed = some true := by
  have hp : ∀ q, ∃ c, congresslaw12_pair q = some c := fun q => ⟨_, rfl⟩
  have hq : ∀ q, congresslaw12_pair q = some ((congresslaw12_pair q).getD z_api_Core) := fun q => by
    obtain ⟨c, hc⟩ := hp q; rw [hc]; rfl
  simp only [congresslaw12_fixed, congresslaw12_pair, lt, prop_eq, all_eq, done_eq, Option.bind_some]
  decide +kernel
def updF (p : api_Peer) (k : api_Packet) : api_Peer :=
  if k.Inc < p.Inc then p
  else if k.Inc > p.Inc ∨ cmpId k.Promise p.Promise > 0 then { Inc := k.Inc, Conf := k.Conf, Promise := k.Promise, Cut := k.Count, Ready := k.Ready }
  else if cmpId k.Promise p.Promise < 0 then p
  else if cmpId k.Conf p.Conf = 1 then { p with Conf := k.Conf, Cut := k.Count, Ready := p.Ready || k.Ready }
  else if cmpId k.Conf p.Conf = 0 then { p with Cut := mxF (mxF (fun _ => 0) p.Cut 8) k.Count 8, Ready := p.Ready || k.Ready }
  else { p with Ready := p.Ready || k.Ready }
theorem upd_eq (p : api_Peer) (k : api_Packet) : gather_Update p k = some (updF p k) := by
  unfold gather_Update updF
  simp only [lt, cmp_eq, union_eq, Option.bind_some, jn, decide_eq_true_eq, Bool.or_eq_true, beq_iff_eq]
  repeat' split
  all_goals first | rfl | (exfalso; omega) | skip
end Go.Proofs.Yteajgbkgijaebaa
