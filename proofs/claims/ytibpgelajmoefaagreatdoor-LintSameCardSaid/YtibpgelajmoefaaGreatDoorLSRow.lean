/-
  LintSame, for every input: the law's function returns true, and its arguments read as before; the package-level variables that the row lists read as the program's text lays them (the card ties them to it).
-/
import Derived.Test.YtibpgelajmoefaaGreatDoorLSC0
import Derived.Test.YtibpgelajmoefaaGreatDoorLSC1
import Derived.Test.YtibpgelajmoefaaGreatDoorLSC2
import Derived.Test.YtibpgelajmoefaaGreatDoorLSC3
import Derived.Test.YtibpgelajmoefaaGreatDoorLSC4
import Derived.Test.YtibpgelajmoefaaGreatDoorLSC5
import Derived.Test.YtibpgelajmoefaaGreatDoorLSF
namespace Go.Proofs.YtibpgelajmoefaaGreatDoor.LS
open Go Go.Ev Go.RowKit Go.ChangeShapes Go.WideShapes Go.ChangeAt
theorem runs0 : ∀ r, r < 4 → evAsk Tryz.prog tb2 1000000 (.fn (.func 5) [] []) [.cls .u8 6 0 256, .cls .u8 4 r 256] hG (.bool true) = yes
  | 0, _ => c0_0
  | 1, _ => c0_1
  | 2, _ => c0_2
  | 3, _ => c0_3
  | n + 4, h => absurd h (by omega)
theorem runs1 : ∀ r, r < 4 → evAsk Tryz.prog tb2 1000000 (.fn (.func 5) [] []) [.cls .u8 6 1 256, .cls .u8 4 r 256] hG (.bool true) = yes
  | 0, _ => c1_0
  | 1, _ => c1_1
  | 2, _ => c1_2
  | 3, _ => c1_3
  | n + 4, h => absurd h (by omega)
theorem runs2 : ∀ r, r < 4 → evAsk Tryz.prog tb2 1000000 (.fn (.func 5) [] []) [.cls .u8 6 2 256, .cls .u8 4 r 256] hG (.bool true) = yes
  | 0, _ => c2_0
  | 1, _ => c2_1
  | 2, _ => c2_2
  | 3, _ => c2_3
  | n + 4, h => absurd h (by omega)
theorem runs3 : ∀ r, r < 4 → evAsk Tryz.prog tb2 1000000 (.fn (.func 5) [] []) [.cls .u8 6 3 256, .cls .u8 4 r 256] hG (.bool true) = yes
  | 0, _ => c3_0
  | 1, _ => c3_1
  | 2, _ => c3_2
  | 3, _ => c3_3
  | n + 4, h => absurd h (by omega)
theorem runs4 : ∀ r, r < 4 → evAsk Tryz.prog tb2 1000000 (.fn (.func 5) [] []) [.cls .u8 6 4 256, .cls .u8 4 r 256] hG (.bool true) = yes
  | 0, _ => c4_0
  | 1, _ => c4_1
  | 2, _ => c4_2
  | 3, _ => c4_3
  | n + 4, h => absurd h (by omega)
theorem runs5 : ∀ r, r < 4 → evAsk Tryz.prog tb2 1000000 (.fn (.func 5) [] []) [.cls .u8 6 5 256, .cls .u8 4 r 256] hG (.bool true) = yes
  | 0, _ => c5_0
  | 1, _ => c5_1
  | 2, _ => c5_2
  | 3, _ => c5_3
  | n + 4, h => absurd h (by omega)
theorem runs : ∀ r r', r < 6 → r' < 4 → evAsk Tryz.prog tb2 1000000 (.fn (.func 5) [] []) [.cls .u8 6 r 256, .cls .u8 4 r' 256] hG (.bool true) = yes
  | 0, r', _, h => runs0 r' h
  | 1, r', _, h => runs1 r' h
  | 2, r', _, h => runs2 r' h
  | 3, r', _, h => runs3 r' h
  | 4, r', _, h => runs4 r' h
  | 5, r', _, h => runs5 r' h
  | n + 6, _, h, _ => absurd h (by omega)

set_option maxRecDepth 100000 in
theorem contract (H : Type) (enc : TypeId × Value → H) (W : World) (base : Nat) (args : Array Value) (ds gs : List (DataW H)) (before : List MemPlace)
    (hval : ∀ (j : Nat) t v, Tryz.f5.params[j]? = some t → args[j]? = some v → Value.okWide Tryz.prog W .any base t v)
    (hW : DataW.Whole enc Tryz.prog Tryz.f5.params.toList Rows.lintSameSpec.vars false W args.toList ds gs before) (hL : laidMetH Tryz.prog Rows.lintSameRow.laid W) (hS : W.ShapedOpen Tryz.prog) :
    Calls Tryz.prog 5 args W fun e W' => ∃ v, e = .returned v ∧ Rows.lintSameSpec.post enc Tryz.prog Tryz.f5 false true false false W args v W' := by
  have hW' := hW
  obtain ⟨p, q, hA0, hV, rfl, hfz, hnd⟩ := hW
  have hA : DataW.TrodAll enc Tryz.prog W 0 (fun _ => true) true Tryz.f5.params.toList args.toList ds p := hA0
  rw [Tryz.params5] at hA hval
  obtain ⟨v0, vs0, d0, ds0, p0, q0, hargs, rfl, rfl, h0, r0⟩ := trodAll_cons hA
  obtain ⟨v1, vs1, d1, ds1, p1, q1, hargs1, rfl, rfl, h1, r1⟩ := trodAll_cons r0
  obtain ⟨rfl, rfl, rfl⟩ := trodAll_nil r1
  obtain rfl : args = #[v0, v1] := by cases args; simp_all
  obtain ⟨rfl, rfl⟩ := trodVars_none hV
  obtain ⟨a, rfl, rfl, rfl, wa⟩ := open_int und5 (hval 0 5 v0 rfl rfl) h0
  obtain ⟨b, rfl, rfl, rfl, wb⟩ := open_int und5 (hval 1 5 v1 rfl rfl) h1
  clear hA0
  simp only [List.append_nil] at hW'
  obtain ⟨ρ, hρ⟩ := laidRho (l := Rows.lintSameRow.laid) hL (by simp [Rows.lintSameRow]) hS
  refine (calls2 tb2Ok Tryz.func5 (by kernel_rfl) (c := _) rfl 6 4 1000000 (by decide) (by decide) runs hρ wa wb).mono fun e W' ⟨he, hb⟩ => ?_
  subst he
  exact ⟨_, rfl, post_below (pa := []) (pv := []) hW' (fun _ _ _ => trodAll_cons_mk (shut_bool und4 _) trodAll_mk0) (fun _ _ => trodAll_cons_mk (shut_int und5 wa) (trodAll_cons_mk (shut_int und5 wb) trodAll_mk0)) (fun _ _ => rfl) hb⟩

theorem laid_met (os : Os) : laidMet Tryz.prog Rows.lintSameRow.laid ((laidWorld os).forCall (fun _ _ => 0) ⟨#[], #[.int .u8 0, .int .u8 0], []⟩).memory :=
  laidMet_of_run' 8 (by kernel_rfl) (by kernel_rfl)
theorem reads (os : Os) {H : Type} (enc : TypeId × Value → H) : ∃ places, DataW.whole enc Tryz.prog ((laidWorld os).forCall (fun _ _ => 0) ⟨#[], #[.int .u8 0, .int .u8 0], []⟩).memory Tryz.f5.params.toList Rows.lintSameSpec.vars false (#[.int .u8 0, .int .u8 0] : Array Value).toList 8 = some ([.lit (.int .u8 0), .lit (.int .u8 0)], [], places) :=
  ⟨[], by kernel_rfl⟩

set_option maxRecDepth 100000 in
theorem lifted (os : Os) (started : os.Started) (H : Type) (enc : TypeId × Value → H) (F : Stop.Interp) :
    ReturnsInHanded {} Tryz.checked os 5 .any ((OpenSpec.ofChange Rows.lintSameSpec).preRow enc Tryz.prog Tryz.f5 Rows.lintSameRow.domain false Rows.lintSameRow.laid) (((OpenSpec.ofChange Rows.lintSameSpec).at F).post enc Tryz.prog Tryz.f5 false true false false) := by
  obtain ⟨places, hx⟩ := reads os enc
  refine returnsInHanded_of_row (C := Tryz.checked) (s := OpenSpec.ofChange Rows.lintSameSpec) own started (by kernel_rfl) Tryz.func5
    (witness_row_atRef (enc := enc) (C := Tryz.checked) false (laidWorld os) #[.int .u8 0, .int .u8 0] rfl (by kernel_rfl) (by kernel_rfl) (by kernel_rfl)
      (OpenSpec.preRow_of_cond 8 hx (by kernel_rfl) (fun k hk => by cases hk) (by kernel_rfl) (laid_met os))) ?_
  intro W base args ds gs before hval hW _ _ _ hL hS _
  exact contract H enc W base args ds gs before hval hW hL hS

theorem said : Rows.LintSameSaid :=
  OpenClaim.holds_of_cond 5 Tryz.f5 rfl rfl rfl rfl rfl rfl rfl ⟨rfl, rfl, rfl, rfl, rfl⟩ rfl rfl rfl rfl rfl named Tryz.func5 facts
    (of_decide_eq_true inst) (by unfold Func.isWrapper; first | (rw [if_pos (by decide +kernel)]; kernel_rfl) | (rw [if_neg (by decide +kernel)]; exact ⟨rfl, rfl⟩))
    (fun os started H enc _ F => by rw [OpenClaim.pre_eq_preRow]; exact lifted os started H enc F)

theorem plain (f : FuncId) (fn : Func) (hf : Tryz.pinned.checked.prog.funcNamed "subeditor/subeditorlaw17.LintSame" = some f) (hfn : Tryz.pinned.checked.prog.funcs[f]? = some fn) :
    true = Tryz.pinned.checked.prog.looks [] ∧ ∀ (j : Nat) t, fn.params[j]? = some t → Tryz.pinned.checked.prog.wantsStandIn t = false := by
  obtain rfl : f = 5 := Option.some.inj ((show Tryz.prog.funcNamed "subeditor/subeditorlaw17.LintSame" = some 5 by kernel_rfl).symm.trans hf) |>.symm
  obtain rfl : fn = Tryz.f5 := (Option.some.inj (Tryz.func5.symm.trans hfn)).symm
  refine ⟨by kernel_rfl, fun j t ht => ?_⟩
  rw [Tryz.params5] at ht
  obtain rfl : t = 5 := by simpa using Array.mem_of_getElem? ht
  exact (show Tryz.prog.wantsStandIn 5 = false by kernel_rfl)

end Go.Proofs.YtibpgelajmoefaaGreatDoor.LS
