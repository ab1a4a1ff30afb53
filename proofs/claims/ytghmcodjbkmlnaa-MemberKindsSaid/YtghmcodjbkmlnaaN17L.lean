/-
  Sealed texts; laws of chapter 17.
  Own text, for the claims about coterie. No program in sight.
-/
import Derived.Test.YtghmcodjbkmlnaaN17P
namespace Go.Co.N
open Go Go.Co

theorem size_gt (t : ByteArray) : decide ((64 : Int) < (t.size : Int)) = !decide (t.size ≤ 64) := by
  by_cases h : t.size ≤ 64
  · have h2 : ¬ (64 : Int) < (t.size : Int) := by omega
    rw [decide_eq_true h, decide_eq_false h2]; rfl
  · have h2 : (64 : Int) < (t.size : Int) := by omega
    rw [decide_eq_true h2, decide_eq_false h]; rfl
theorem seal_eq (m : Member) (t : ByteArray) : (bif !decide ((group m).2 = 0) then some (Sealed.mk 0 (St.zero St.key) (bytesOf []), (group m).2, ()) else bif decide ((64 : Int) < (t.size : Int)) then some (Sealed.mk 0 (St.zero St.key) (bytesOf []), 25, ()) else some (Sealed.mk m.Epoch (group m).1 t, 0, ())) = some ((sealM m t).1, (sealM m t).2, ()) := by
  rw [size_gt]
  by_cases h : (group m).2 = 0
  · by_cases h2 : t.size ≤ 64
    · have : sealM m t = (⟨m.Epoch, (group m).1, t⟩, 0) := by simp [sealM, h, h2]
      simp [h, h2, this]
    · have : sealM m t = (zeroS, 25) := by simp [sealM, h, h2]
      simp only [h, h2, this, decide_true, decide_false, Bool.not_true, Bool.not_false, cond_true, cond_false]; rfl
  · have : sealM m t = (zeroS, (group m).2) := by simp [sealM, h]
    simp only [h, this, decide_false, Bool.not_false, cond_true]; rfl
theorem eq_data_Seal : Eqs c_data_Seal g_data_Seal := Eqs.tot fun (m, t, _) _ => by
  change Member at m
  change ByteArray at t
  simp only [g_data_Seal]
  exact seal_eq m t
theorem eq_ref17_Seal : Eqs c_ref17_Seal g_ref17_Seal := Eqs.tot fun (m, t, _) _ => by
  change Member at m
  change ByteArray at t
  simp only [g_ref17_Seal]
  exact seal_eq m t
theorem eq_ref17_Open : Eqs c_ref17_Open g_ref17_Open := Eqs.tot fun (m, s, _) _ => by
  change Member at m
  change Sealed at s
  simp only [g_ref17_Open, bytes_nil]
  by_cases h : (group m).2 = 0
  case neg =>
    have : openM m s = (ByteArray.empty, (group m).2) := by simp [openM, h]
    simp [h, this]
  by_cases h1 : goodSealed s = true
  case neg =>
    have : openM m s = (ByteArray.empty, 13) := by simp [openM, h, h1]
    simp [h, h1, this]
  by_cases h2 : s.Epoch < m.Epoch
  · have : openM m s = (ByteArray.empty, 21) := by simp [openM, h, h1, h2]
    simp [h, h1, h2, this]
  by_cases h3 : m.Epoch < s.Epoch
  · have : openM m s = (ByteArray.empty, 32) := by simp [openM, h, h1, h2, h3]
    simp [h, h1, h2, h3, this]
  by_cases h4 : s.Under = (group m).1
  · have : openM m s = (s.Text, 0) := by simp [openM, h, h1, h2, h3, h4]
    simp [h, h1, h2, h3, h4, this]
  · have : openM m s = (ByteArray.empty, 5) := by simp [openM, h, h1, h2, h3, h4]
    simp [h, h1, h2, h3, h4, this]
theorem goodMsg_data (s : Sealed) : goodMsg (Message.mk 4 (St.zero St.rekey) (St.zero St.request) (St.zero St.reply) s) = goodSealed s := by
  have h1 : noRekey (St.zero St.rekey) = true := by decide
  have h2 : decide ((St.zero St.request : Request) = zeroQ) = true := by decide
  have h3 : decide ((St.zero St.reply : Reply) = zeroY) = true := decide_eq_true rfl
  unfold goodMsg
  rw [h1, h2, h3]; rfl
theorem eq_data_Open : Eqs c_data_Open g_data_Open := Eqs.tot fun (m, s, _) _ => by
  change Member at m
  change Sealed at s
  simp only [g_data_Open, bytes_nil, goodMsg_data]
  by_cases h : (group m).2 = 0
  case neg =>
    have : openM m s = (ByteArray.empty, (group m).2) := by simp [openM, h]
    simp [h, this]
  by_cases h1 : goodSealed s = true
  case neg =>
    have : openM m s = (ByteArray.empty, 13) := by simp [openM, h, h1]
    simp [h, h1, this]
  by_cases h2 : s.Epoch < m.Epoch
  · have : openM m s = (ByteArray.empty, 21) := by simp [openM, h, h1, h2]
    have hc : cmpI s.Epoch m.Epoch = -1 := by simp [cmpI, h2]
    simp [h, h1, hc, this]
  by_cases h3 : m.Epoch < s.Epoch
  · have : openM m s = (ByteArray.empty, 32) := by simp [openM, h, h1, h2, h3]
    have hc : cmpI s.Epoch m.Epoch = 1 := by simp [cmpI, h2, h3]
    simp [h, h1, hc, this]
  have hc : cmpI s.Epoch m.Epoch = 0 := by simp [cmpI, h2, h3]
  by_cases h4 : s.Under = (group m).1
  · have : openM m s = (s.Text, 0) := by simp [openM, h, h1, h2, h3, h4]
    simp [h, h1, hc, h4, this]
  · have : openM m s = (ByteArray.empty, 5) := by simp [openM, h, h1, h2, h3, h4]
    simp [h, h1, hc, h4, this]

/-! ### The laws -/
theorem eq_law17_lives : Eqs c_law17_lives g_law17_lives := fun _ _ _ h => h
theorem eq_law17_DataSeals : Eqs c_law17_DataSeals g_law17_DataSeals := Eqs.tot fun (m, t, _) _ => by simp [g_law17_DataSeals]
theorem eq_law17_DataOpens : Eqs c_law17_DataOpens g_law17_DataOpens := Eqs.tot fun (m, s, _) _ => by simp [g_law17_DataOpens]
section
variable {t : Tree} (hg : goodTree t = true) {s : Nat} (hs : s < 64) (hon : isOn t.Roster s = true)
include hg hs hon
theorem stand_card : goodCard (cardOf (standAt t (ent t.Roster s).Who s)) = true := by
  obtain ⟨h1, h2, h3, h4, h5, h6, h7, h8⟩ := goodTree_iff.1 hg
  have he := goodE_iff.1 (roster_on h6 hs hon).1
  have hsn := (h8 s hs).2.1
  have hl := leafAt_on hg hs hon
  have hgd : good (⟨(ent t.Roster s).Base, t.Epoch - (ent t.Roster s).Since⟩ : Key) = true := good_iff.2 ⟨by simp only; omega, by simp only; omega, by simp only; omega, by simp only; omega⟩
  have a1 : betw (ent t.Roster s).Who 0 255 = true := betw_iff.2 (by omega)
  have a2 : betw (s : Int) 0 63 = true := betw_iff.2 (by omega)
  have a3 : betw t.Epoch 1 200 = true := betw_iff.2 (by omega)
  show (betw (ent t.Roster s).Who 0 255 && betw (s : Int) 0 63 && betw t.Epoch 1 200 && good (leafAt (ent t.Roster s) t.Epoch).1) = true
  rw [a1, a2, a3, hl, hgd]; rfl
theorem stand_epoch : 1 ≤ t.Epoch ∧ t.Epoch ≤ 200 := by
  obtain ⟨h1, h2, h3, h4, h5, h6, h7, h8⟩ := goodTree_iff.1 hg
  have he := goodE_iff.1 (roster_on h6 hs hon).1
  have hsn := (h8 s hs).2.1
  omega
omit hon in
theorem path_good : goodPath (pathK t s) = true := allN_iff.2 fun i hi => by
  have hp := pathAt_in (s := (s : Int)) (by omega) (by omega) i
  rw [pathK, get_make _ _ (by omega) (by omega)]
  simp only [Int.toNat_natCast]
  obtain ⟨v, hv⟩ := Int.eq_ofNat_of_zero_le hp.1
  rw [hv]
  exact (goodKeys_iff.1 (goodTree_iff.1 hg).2.2.2.2.1 v (by omega)).1
theorem kind_stand : kind (standAt t (ent t.Roster s).Who s) = 3 := by
  have h1 : ¬ standAt t (ent t.Roster s).Who s = zeroM := fun h => by
    have := congrArg Member.Has h
    simp [standAt] at this
    cases this
  unfold kind
  rw [decide_eq_false h1, stand_card hg hs hon, show calmB (standAt t (ent t.Roster s).Who s) = true from rfl]
  show (bif goodPath (pathK t s) then (3 : Int) else -1) = 3
  rw [path_good hg hs]; rfl
omit hg hs hon in
theorem pathK_root : Arr.get (pathK t s) 2 = Arr.get t.Keys 0 := by
  rw [pathK, get_make _ _ (by omega) (by omega)]; rfl
theorem group_stand : group (standAt t (ent t.Roster s).Who s) = (Arr.get t.Keys 0, 0) := by
  unfold group
  rw [kind_stand hg hs hon]
  show (Arr.get (pathK t s) 2, (0 : Int)) = _
  rw [pathK_root]
/-- The same device, with its card alone. -/
def bareOf (m : Member) : Member := ⟨m.Who, m.Slot, m.Epoch, m.Leaf, zeroP, false, m.Out, m.Behind⟩
theorem kind_bare : kind (bareOf (standAt t (ent t.Roster s).Who s)) = 2 := by
  have h1 : ¬ bareOf (standAt t (ent t.Roster s).Who s) = zeroM := fun h => by
    have := congrArg Member.Epoch h
    have he := stand_epoch hg hs hon
    have : t.Epoch = 0 := this
    omega
  unfold kind
  rw [decide_eq_false h1, show cardOf (bareOf (standAt t (ent t.Roster s).Who s)) = cardOf (standAt t (ent t.Roster s).Who s) from rfl, stand_card hg hs hon, show calmB (bareOf (standAt t (ent t.Roster s).Who s)) = true from rfl]
  show (bif decide (zeroP = zeroP) then (2 : Int) else -1) = 2
  simp
theorem group_bare : group (bareOf (standAt t (ent t.Roster s).Who s)) = (⟨0, 0⟩, 22) := by
  unfold group
  rw [kind_bare hg hs hon]; rfl
end
theorem eq_law17_DataInStep : Eqs c_law17_DataInStep g_law17_DataInStep := Eqs.tot fun (t, who, text, _) _ => by
  change Tree at t
  change Int at who
  simp only [g_law17_DataInStep, bytes_nil]
  by_cases hst : (stand t who).2 = 0
  case neg => simp [hst]
  have hg : goodTree t = true := by
    cases h : goodTree t with
    | true => rfl
    | false => simp [stand, h] at hst
  have hf : 0 ≤ findR t.Roster who := by
    by_cases h : 0 ≤ findR t.Roster who
    · exact h
    · simp [stand, hg, h] at hst
  have hso := stand_ok hg hf
  obtain ⟨s, hs, he, hon, hw, _⟩ := findR_some hf
  rw [he, ← hw] at hso
  rw [hw] at hso
  have hgr : group (standAt t who s) = (Arr.get t.Keys 0, 0) := by rw [← hw]; exact group_stand hg hs hon
  have hep := stand_epoch hg hs hon
  rw [hso]
  simp only [decide_true, Bool.not_true, cond_false]
  by_cases hsz : ByteArray.size text ≤ 64
  case neg =>
    have h64 : decide ((64 : Int) < (ByteArray.size text : Int)) = true := by rw [size_gt]; simp [hsz]
    have hse : sealM (standAt t who s) text = (zeroS, 25) := by simp [sealM, hgr, hsz]
    rw [h64, hse]
    simp only [decide_true, cond_true]
    exact congrArg (fun b : Bool => some (b, ())) (decide_eq_true rfl)
  have h64 : decide ((64 : Int) < (ByteArray.size text : Int)) = false := by rw [size_gt]; simp [hsz]
  have hse : sealM (standAt t who s) text = (⟨t.Epoch, Arr.get t.Keys 0, text⟩, 0) := by
    have : sealM (standAt t who s) text = (⟨(standAt t who s).Epoch, Arr.get t.Keys 0, text⟩, 0) := by simp [sealM, hgr, hsz]
    exact this
  rw [h64, hse]
  simp only [decide_true, Bool.not_true, cond_false]
  have hgs : goodSealed ⟨t.Epoch, Arr.get t.Keys 0, text⟩ = true := by
    have hk := (goodKeys_iff.1 (goodTree_iff.1 hg).2.2.2.2.1 0 (by omega)).1
    have hb : betw t.Epoch 1 200 = true := betw_iff.2 hep
    have hk' : good (Arr.get t.Keys 0) = true := hk
    unfold goodSealed
    simp only [hb, hk', hsz, decide_true, Bool.and_self]
  rw [lfp_run' (fun i => ((text, (), (), (i : Int), ()), (t, ⟨t.Epoch, Arr.get t.Keys 0, text⟩, ()), ())) 64 (by rfl) fun i hi => by
    have h1 : (i : Int) < 64 := by omega
    simp only [g_law17_DataInStep_r1, h1, decide_true, cond_true, Int.natCast_nonneg, Bool.and_self, wrap1 i (by omega)]
    by_cases honi : isOn t.Roster i = true
    case neg =>
      have : (Arr.get t.Roster (i : Int)).Base = 0 := Classical.not_not.1 fun h => honi (isOn_iff.2 h)
      simp [this]
    have hb : ¬ (Arr.get t.Roster (i : Int)).Base = 0 := isOn_iff.1 honi
    have hfi := findR_self (goodTree_iff.1 hg).2.2.2.2.2.1 hi honi
    have hsi : stand t (Arr.get t.Roster (i : Int)).Who = (standAt t (Arr.get t.Roster (i : Int)).Who i, 0) := by
      have := stand_ok hg (who := (ent t.Roster i).Who) (by rw [hfi]; omega)
      rw [hfi] at this; exact this
    have hgi : group (standAt t (Arr.get t.Roster (i : Int)).Who i) = (Arr.get t.Keys 0, 0) := group_stand hg hi honi
    have hgb : group (bareOf (standAt t (Arr.get t.Roster (i : Int)).Who i)) = (⟨0, 0⟩, 22) := group_bare hg hi honi
    have ho : openM (standAt t (Arr.get t.Roster (i : Int)).Who i) ⟨t.Epoch, Arr.get t.Keys 0, text⟩ = (text, 0) := by
      unfold openM
      rw [hgi, hgs]
      simp [standAt]
    have hob : openM (bareOf (standAt t (Arr.get t.Roster (i : Int)).Who i)) ⟨t.Epoch, Arr.get t.Keys 0, text⟩ = (ByteArray.empty, 22) := by
      unfold openM
      rw [hgb]; rfl
    simp only [hb, decide_false, cond_false, hsi, decide_true, Bool.not_true, ho]
    rw [show (Member.mk (standAt t (Arr.get t.Roster (i : Int)).Who i).Who (standAt t (Arr.get t.Roster (i : Int)).Who i).Slot (standAt t (Arr.get t.Roster (i : Int)).Who i).Epoch (standAt t (Arr.get t.Roster (i : Int)).Who i).Leaf (Vector.replicate 3 (St.zero St.key)) false (standAt t (Arr.get t.Roster (i : Int)).Who i).Out (standAt t (Arr.get t.Roster (i : Int)).Who i).Behind) = bareOf (standAt t (Arr.get t.Roster (i : Int)).Who i) from rfl]
    simp only [hob, bytes_nil, decide_true, Bool.not_true, cond_false]]
  rw [lfp_inr (z := .inr ((), (), ())) (by simp [g_law17_DataInStep_r1])]
  simp
end Go.Co.N
