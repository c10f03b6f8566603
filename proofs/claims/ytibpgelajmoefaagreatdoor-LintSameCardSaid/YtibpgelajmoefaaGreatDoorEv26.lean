/- The three functions without a body. -/
import Derived.Test.YtibpgelajmoefaaGreatDoorEv25
import Derived.Laws.Externs
import Derived.Lib.Bytealg
import Derived.Lib.MakeNoZero
import Derived.Lib.Builder
namespace Go.Ev
variable {Λ : Laid}

section ext
variable {P : Program}

theorem ixb_ok (c : UInt8) : ∀ (l : List UInt8) (i : Nat), ixb l.length (bn l) c.toNat i = if Lib.indexByte l c = -1 then -1 else (i : Int) + Lib.indexByte l c
  | [], i => rfl
  | a :: l, i => by
    have ha := a.toNat_lt
    have h1 : Nat.land (bn (a :: l)) 255 = a.toNat := by
      show bn (a :: l) &&& 255 = _
      rw [show (255 : Nat) = 2 ^ 8 - 1 from rfl, Nat.and_two_pow_sub_one_eq_mod]
      simp only [bn]
      omega
    have h2 : Nat.shiftRight (bn (a :: l)) 8 = bn l := by
      show bn (a :: l) >>> 8 = _
      rw [Nat.shiftRight_eq_div_pow]
      simp only [bn]
      omega
    have hge := Lib.indexByte_ge l c
    simp only [List.length_cons, ixb, h1, h2, ixb_ok c l (i + 1), Lib.indexByte]
    by_cases q : a = c
    · subst q
      simp
    · have hq : Nat.beq a.toNat c.toNat = false := by
        rw [beq_dec]
        simpa using fun h : a.toNat = c.toNat => q (UInt8.toNat_inj.1 h)
      have hq2 : (a == c) = false := by simpa using q
      simp only [hq, hq2, cond_false, Bool.false_eq_true, if_false, beq_iff_eq]
      by_cases hm : Lib.indexByte l c = -1
      · simp [hm]
      · rw [if_neg hm, if_neg hm, if_neg (by omega)]
        omega

theorem ext_no {g : FuncId} {fn : Func} (h1 : (fn.name == "internal/abi.NoEscape") = false) (h2 : (fn.name == "internal/bytealg.IndexByteString") = false) (h3 : (fn.name == "internal/bytealg.MakeNoZero") = false) : ExtOk Λ P g fn := by
  intro h args v h' he
  unfold externA at he
  rw [h1, h2, h3] at he
  cases he

theorem ext_noEscape {g : FuncId} {fn : Func} (hf : P.funcs[g]? = some fn) (hnm : (fn.name == "runtime.NumGoroutine") = false) (h1 : (fn.name == "internal/abi.NoEscape") = true) (hb : fn.body.isNone = true) (hn : Extern.findNext fn = none)
    (he : Extern.find fn = some Extern.AbiNoEscape.same) : ExtOk Λ P g fn := by
  intro h args v h' hx A w ρ base hA r hfr
  unfold externA at hx
  rw [h1] at hx
  simp only [cond_true] at hx
  split at hx
  · injection hx with q1 q2
    subst q1 q2
    obtain ⟨X, rfl, hX⟩ := vrl1 hA
    refine ⟨ρ, X, w, ?_, hX, r, .refl _ _ _⟩
    rw [run_callFunc_extern hf hnm hb hn he, Lib.run_noEscape]
    rfl
  · cases hx

theorem ext_indexByte {g : FuncId} {fn : Func} (hf : P.funcs[g]? = some fn) (hnm : (fn.name == "runtime.NumGoroutine") = false) (h1 : (fn.name == "internal/abi.NoEscape") = false) (h2 : (fn.name == "internal/bytealg.IndexByteString") = true) (hb : fn.body.isNone = true) (hn : Extern.findNext fn = none)
    (he : Extern.find fn = some Extern.BytealgIndexByte.indexByte) : ExtOk Λ P g fn := by
  intro h args v h' hx A w ρ base hA r hfr
  unfold externA at hx
  rw [h1, h2] at hx
  simp only [cond_true, cond_false] at hx
  split at hx
  · rename_i n a c
    cases hc : Nat.blt c 256 with
    | false => rw [hc] at hx; cases hx
    | true =>
      rw [hc] at hx
      simp only [cond_true] at hx
      rw [blt_iff] at hc
      injection hx with q1 q2
      subst q1 q2
      obtain ⟨X, Y, rfl, hX, hY⟩ := vrl2 hA
      obtain ⟨s, rfl, rfl, rfl⟩ := hX.str
      simp only [VR] at hY
      subst hY
      have hcc : c.toUInt8.toNat = c := by simp [Nat.toUInt8, Nat.mod_eq_of_lt hc]
      have hix := ixb_ok c.toUInt8 s.data.toList 0
      rw [hcc] at hix
      refine ⟨ρ, .int .i64 (Lib.indexByte s.data.toList c.toUInt8), w, ?_, ?_, r, .refl _ _ _⟩
      · rw [run_callFunc_extern hf hnm hb hn he, Lib.run_indexByteString]
        rfl
      · simp only [VR]
        rw [hix]
        congr 1
        split
        · rename_i hm; exact hm
        · omega
  · cases hx

theorem ext_makeNoZero {g : FuncId} {fn : Func} (hf : P.funcs[g]? = some fn) (hnm : (fn.name == "runtime.NumGoroutine") = false) (h1 : (fn.name == "internal/abi.NoEscape") = false) (h2 : (fn.name == "internal/bytealg.IndexByteString") = false) (h3 : (fn.name == "internal/bytealg.MakeNoZero") = true)
    (hb : fn.body.isNone = true) (hn : Extern.findNext fn = none) (he : Extern.find fn = some (Extern.BytealgMakeNoZero.makeNoZero fn.params fn.resultTypes)) : ExtOk Λ P g fn := by
  intro h args v h' hx A w ρ base hA r hfr
  unfold externA at hx
  rw [h1, h2, h3] at hx
  simp only [cond_true, cond_false] at hx
  unfold extMake at hx
  split at hx
  · rename_i n
    obtain ⟨X, rfl, hX⟩ := vrl1 hA
    simp only [VR] at hX
    subst hX
    split at hx
    · rename_i t hts
      have hrt : fn.resultTypes = #[t] := by apply Array.ext'; simpa using hts
      split at hx
      · rename_i elem hd
        cases hq : Nat.ble n 1000000000 with
        | false => rw [hq] at hx; cases hx
        | true =>
          rw [hq] at hx
          simp only [cond_true] at hx
          injection hx with q1 q2
          subst q1 q2
          have hle := Nat.le_of_ble_eq_true hq
          obtain ⟨cs, z1, z2, _⟩ := Lib.run_makeNoZero (P := P) w fn.params t elem hd n (by omega)
          have r2 := (r.drew (w.drawn + 1)).drew (w.drawn + 1 + 1)
          have s2 : Step ρ h w ρ h w.drew.drew := (Step.drew (w := w) (w.drawn + 1)).trans (Step.drew (w := w.drew) (w.drawn + 1 + 1))
          obtain ⟨r3, s3⟩ := Rel.fresh (w := w.drew.drew) r2 (o := .cells [] elem false true) (O := .cells cs elem) (l := ⟨w.heap.size, 0, cs.size⟩) hfr rfl (by simp)
            ⟨cs, (0, 0), (by show (w.heap.push _)[w.heap.size]? = _; exact Array.getElem?_push_size), rfl, fun _ => rfl, fun _ => rfl, by simp⟩
          refine ⟨_, .slice (some ⟨w.heap.size, 0, none⟩) n cs.size, _, ?_, ?_, r3, s2.trans s3⟩
          · rw [run_callFunc_extern hf hnm hb hn he, hrt]
            rw [show (Value.int IntKind.i64 (Int.ofNat n)) = Value.int .i64 (n : Int) from rfl, z1]
            rfl
          · simp only [VR]
            exact ⟨_, cs.size, 0, upd_eq _ _ _, rfl, z2, by simp, by simp, by simp⟩
      · cases hx
    · cases hx
  · cases hx

end ext
end Go.Ev
