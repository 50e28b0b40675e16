/-
  A row's last step where the law answers true and leaves its arguments as they read: what is asked is that nothing that stood has turned.
-/
import Derived.Test.YtcnmnfllchiehaaDoorL0
import Derived.ProofKit
import Derived.ChangeSame
import Derived.WideKeyArgs
import Derived.Carry
set_option linter.unusedVariables false
namespace Go.Proofs.YtcnmnfllchiehaaDoor
open Go.ChangeShapes Go.WideShapes Go.ChangeAt Go.RowKit

section
variable {H : Type} {enc : TypeId × Value → H} {P : Program}

theorem trodAll_stays (hl : laidOutB P = true) {W W' : World} {base : Nat} {sp : Nat → Bool} :
    ∀ {ts : List TypeId} {vs : List Value} {ds : List (DataW H)} {ps : List MemPlace}, (∀ t ∈ ts, P.readableRec t = true ∧ t < P.types.size) → DataW.TrodAll enc P W base (fun _ => true) true ts vs ds ps →
      (∀ p ∈ ps, W.sameAt W' p) → (∀ p ∈ ps, sp p.block = true) → DataW.TrodAll enc P W' base sp true ts vs ds ps
  | [], vs, ds, ps, _, h, _, _ => by
    obtain ⟨rfl, rfl, rfl⟩ := trodAll_nil h
    exact rfl
  | t :: ts, vs, ds, ps, hr, h, hsame, hs => by
    obtain ⟨v, vs', d, ds', p, q, rfl, rfl, rfl, hd, hrest⟩ := trodAll_cons h
    have h0 := hr t (by simp)
    exact ⟨p, q, WideElems.Trod_stays hl h0.1 h0.2 hd (fun x hx => hsame x (by simp [hx])) (fun x hx => hs x (by simp [hx])),
      trodAll_stays hl (fun t' ht' => hr t' (by simp [ht'])) hrest (fun x hx => hsame x (by simp [hx])) (fun x hx => hs x (by simp [hx])), rfl⟩

theorem post_true {f : Func} {s : ChangeSpec} {fresh handsOn again : Bool} {W W' : World} {args : Array Value} {ds gs : List (DataW H)} {before : List MemPlace} {tb : TypeId}
    (hW : DataW.Whole enc P f.params.toList s.vars false W args.toList ds gs before) (hv : s.vars = []) (hf : s.fn H ds = { results := [.lit (.bool true)], args := ds })
    (hrt : f.resultTypes = #[tb]) (htb : P.underlying tb = some .bool) (hl : laidOutB P = true) (hr : ∀ t ∈ f.params.toList, P.readableRec t = true ∧ t < P.types.size) (hb : Fr [] W W') :
    s.post enc P f false fresh handsOn again W args (.bool true) W' := by
  have hW0 := hW
  have hlt : ∀ p ∈ before, p.block < W.heap.size := fun p hp => hW0.lt p hp
  obtain ⟨p, q, hA, hV, rfl, hz, hn⟩ := hW
  rw [hv] at hV
  obtain ⟨rfl, rfl⟩ := trodVars_none hV
  have hB := hb.toBelow
  simp only [List.append_nil] at *
  have hold : ∀ x ∈ p, (fun b => decide (b < W.heap.size)) x.block = true := fun x hx => by simpa using hlt x hx
  have hargs : ∀ sp : Nat → Bool, (∀ x ∈ p, sp x.block = true) → DataW.TrodAll enc P W' 0 sp true f.params.toList args.toList (s.fn H ds).args p := fun sp hsp => by
    rw [hf]; exact trodAll_stays hl hr hA (fun x hx => hB.same (hlt x hx)) hsp
  have hvars : ∀ sp : Nat → Bool, DataW.TrodVars enc P W' sp s.vars (s.fn H ds).vars [] := fun sp => by rw [hv, hf]; exact rfl
  have hres : ∀ (b : Nat) (sp : Nat → Bool) (hd : Bool), DataW.TrodAll enc P W' b sp hd f.resultTypes.toList ((Value.bool true).resultList f.resultTypes.size) (s.fn H ds).results [] := fun b sp hd => by
    rw [hrt, hf]; exact trodAll_mk1 (shut_bool htb true)
  refine ⟨ds, [], p, [], p, [], hW0, by simpa using hres _ _ _, by simpa using hargs _ hold, by simpa using hvars _, World.keptBut_mono (fun x hx => ⟨hx, by simpa using hx⟩) (hB.frame (· ∈ p)), fun _ => ?_⟩
  refine ⟨ok_one hrt rfl (okWide_bool_mk htb true), _, _, p, ⟨p, [], by simpa using trodAll_append (hargs _ (fun _ _ => rfl)) (hres 0 (fun _ => true) true), by simpa using hvars _, by simp, ?_, ?_⟩, ?_⟩
  · intro b off hp
    rw [hB.frozen (hlt _ hp)]
    exact hz b off hp
  · intro ha
    exact hn ha
  · intro x hx _
    exact hx
end
end Go.Proofs.YtcnmnfllchiehaaDoor
