/- This seat's program, and what is laid in its memory. -/
import Derived.Test.YtibpgelajmoefaaGreatDoorEv35
import Derived.Test.YtibpgelajmoefaaGreatDoorEv37
import Derived.Test.YtibpgelajmoefaaGreatDoorCards
import Derived.Test.YtibpgelajmoefaaGreatDoorTie
import Derived.Deep.DeepHandedRow
import Derived.Deep.DeepWitnessRowRef
namespace Go.Proofs.YtibpgelajmoefaaGreatDoor
open Go Go.Ev Go.RowKit Go.ChangeShapes Go.ChangeAt

/-- strings.asciiSpace. -/
def spZ : List Int := (List.range 256).map fun i => bif (Nat.ble 9 i && Nat.ble i 13) || Nat.beq i 32 then 1 else 0
def spA : List AV := spZ.map fun z => .int .u8 z
noncomputable def hG : Hp := roHp 7 1 spA 302
theorem hG_ro : RoHp hG := roHp_ro (by decide)

theorem gSp : Tryz.prog.globalNamed "strings.asciiSpace" = some 1 := by kernel_rfl
theorem gSpType : (Tryz.prog.globals[1]?).map (·.type) = some 302 := by kernel_rfl
theorem und302 : Tryz.prog.underlying 302 = some (.array 256 5) := by kernel_rfl
theorem und5 : Tryz.prog.underlying 5 = some (.int .u8) := by kernel_rfl
theorem und4 : Tryz.prog.underlying 4 = some .bool := by kernel_rfl
theorem cells302 : Tryz.prog.cellsOf 302 = 256 := by kernel_rfl
theorem cells5 : Tryz.prog.cellsOf 5 = 1 := by kernel_rfl
theorem globs : Tryz.prog.globals.size = 7 := by kernel_rfl
theorem row_of {g : Nat} {t : TypeId} (h : (((begin Tryz.prog (fun _ _ => 0) default).world.heap[g]?).bind Obj.row?).map (·.2) = some t) : ∃ z, ((begin Tryz.prog (fun _ _ => 0) default).world.heap[g]?).bind Obj.row? = some (z, t) := by
  obtain ⟨⟨z, t'⟩, h1, h2⟩ := Option.map_eq_some_iff.1 h
  exact ⟨z, by rw [h1, ← h2]⟩
theorem row1 : ∃ z, ((begin Tryz.prog (fun _ _ => 0) default).world.heap[1]?).bind Obj.row? = some (z, 302) := row_of (by kernel_rfl)
theorem row6 : ∃ z, ((begin Tryz.prog (fun _ _ => 0) default).world.heap[6]?).bind Obj.row? = some (z, 325) := row_of (by kernel_rfl)
theorem own : ownKnob Tryz.prog.godebug = none := by kernel_rfl

theorem laidAt {W : World} {name : String} {k : IntKind} {zs : List Int} {g : Nat} {t e : TypeId} {n : Nat}
    (hg : Tryz.prog.globalNamed name = some g) (hty : (Tryz.prog.globals[g]?).map (·.type) = some t) (ht : Tryz.prog.underlying t = some (.array n e)) (he : Tryz.prog.underlying e = some (.int k)) (hce : Tryz.prog.cellsOf e = 1) (hct : Tryz.prog.cellsOf t = n) :
    ∀ {l : List (String × DataW Unit)} {ps : List MemPlace}, DataW.LaidVars Tryz.prog W l ps → (name, Lib.tabData k zs) ∈ l → W.var? Tryz.prog name = some (zs.map fun z => Value.int k z).toArray
  | [], _, _, h => by cases h
  | (m, d) :: r, ps, h, hm => by
    obtain ⟨g', t', cs, fuel, p, q, hg', ht', hvar, hd, hr, _⟩ := h
    cases hm with
    | head =>
      obtain rfl := Option.some.inj (hg.symm.trans hg')
      obtain rfl := Option.some.inj (hty.symm.trans ht')
      rw [hvar, ← Lib.cells_of_tab ht he hce hct hd]
    | tail _ hm => exact laidAt hg hty ht he hce hct hr hm

/-- What the row's list gives. -/
theorem laidRho {W : World} {l : List (String × DataW Unit)} (hl : laidMet Tryz.prog l W) (hm : ("strings.asciiSpace", Rows.laid_strings_asciiSpace) ∈ l) (hS : W.ShapedOpen Tryz.prog) : ∃ ρ, RoRel ρ W.heap.size hG W := by
  obtain ⟨ps, hv, _⟩ := hl
  have hsp : ("strings.asciiSpace", (Lib.tabData .u8 spZ : DataW Unit)) ∈ l := by
    have e : (Rows.laid_strings_asciiSpace : DataW Unit) = Lib.tabData .u8 spZ := by kernel_rfl
    rw [← e]; exact hm
  have hvar := laidAt gSp gSpType und302 und5 cells5 cells302 hv hsp
  obtain ⟨z1, h1⟩ := row1
  obtain ⟨z6, h6⟩ := row6
  obtain ⟨c1, hc1, _⟩ := hS.1 1 z1 302 (by rw [globs]; decide) h1
  obtain ⟨c6, hc6, _⟩ := hS.1 6 z6 325 (by rw [globs]; decide) h6
  have hcs : c1 = (spZ.map fun z => Value.int .u8 z).toArray := by
    unfold World.var? at hvar
    rw [gSp] at hvar
    simp only [Option.bind_some, hc1] at hvar
    exact Option.some.inj hvar
  exact roRel_of hc1 hcs (by decide) (by
    have := (Array.getElem?_eq_some_iff.1 hc6).1
    omega)

theorem andT {a b : Bool} (ha : a = true) (hb : b = true) : (a && b) = true := by rw [ha, hb]; rfl

/-! The program is one that the evaluator runs. -/
def fnOk (fn : Func) : Bool := !(fn.name == "runtime.NumGoroutine") && (match fn.body with
  | some c => codeOk false fn.ntmps c
  | none => true)
def bareOk (x : Func × Nat) : Bool := x.1.body.isSome || (!(x.1.name == "internal/abi.NoEscape") && !(x.1.name == "internal/bytealg.IndexByteString") && !(x.1.name == "internal/bytealg.MakeNoZero")) || Nat.beq x.2 316 || Nat.beq x.2 317 || Nat.beq x.2 341
theorem fnsOk : Tryz.prog.funcs.toList.all fnOk = true := by kernel_rfl
theorem baresOk : Tryz.prog.funcs.toList.zipIdx.all bareOk = true := by kernel_rfl

theorem progOk (Λ : Laid) : ProgOk Λ Tryz.prog where
  funcs g fn h := by
    have := List.all_eq_true.1 fnsOk fn (Array.mem_toList_iff.2 (Array.mem_of_getElem? h))
    unfold fnOk at this
    rw [Bool.and_eq_true, Bool.not_eq_true'] at this
    refine ⟨this.1, fun c hc => ?_⟩
    have h2 := this.2
    rw [hc] at h2
    exact h2
  ext g fn h hb := by
    have hm : (fn, g) ∈ Tryz.prog.funcs.toList.zipIdx := by
      rw [List.mem_zipIdx_iff_getElem?, Array.getElem?_toList]; exact h
    have := List.all_eq_true.1 baresOk _ hm
    unfold bareOk at this
    simp only [hb, Option.isSome_none, Bool.false_or, Bool.or_eq_true, Bool.and_eq_true, Bool.not_eq_true'] at this
    rcases this with (((⟨⟨h1, h2⟩, h3⟩ | q) | q) | q)
    · exact ext_no h1 h2 h3
    · have e := Nat.eq_of_beq_eq_true q
      change g = 316 at e
      subst e
      obtain rfl : fn = Tryz.f316 := (Option.some.inj (Tryz.func316.symm.trans h)).symm
      exact ext_noEscape h (by kernel_rfl) (by kernel_rfl) (by kernel_rfl) (by kernel_rfl) (by rfl)
    · have e := Nat.eq_of_beq_eq_true q
      change g = 317 at e
      subst e
      obtain rfl : fn = Tryz.f317 := (Option.some.inj (Tryz.func317.symm.trans h)).symm
      exact ext_makeNoZero h (by kernel_rfl) (by kernel_rfl) (by kernel_rfl) (by kernel_rfl) (by kernel_rfl) (by kernel_rfl) (by rfl)
    · have e := Nat.eq_of_beq_eq_true q
      change g = 341 at e
      subst e
      obtain rfl : fn = Tryz.f341 := (Option.some.inj (Tryz.func341.symm.trans h)).symm
      exact ext_indexByte h (by kernel_rfl) (by kernel_rfl) (by kernel_rfl) (by kernel_rfl) (by kernel_rfl) (by rfl)
  draw := draw_ok (by kernel_rfl)

/-! A start that fits. -/
def rt16 : List Int := [9, 13, 1, 32, 133, 101, 160, 5760, 5600, 8192, 8202, 1, 8232, 8233, 1, 8239, 8287, 48, 12288, 12288, 1]
def over (cs : Array Value) : Obj → Obj
  | .cells _ t f => .cells cs t f
  | o => o
noncomputable def laidWorld (os : Os) : World :=
  let w := World.holding Tryz.prog os ⟨#[], #[], []⟩
  { w with heap := (((((((w.heap.modify 1 (over (spZ.map (Value.int .u8)).toArray)).modify 3 (over #[.pointer (some ⟨w.heap.size, 0, none⟩)])).modify 4 (over #[.int .u8 0, .int .u8 1, .int .u8 28, .int .u8 2, .int .u8 29, .int .u8 14, .int .u8 24, .int .u8 3, .int .u8 30, .int .u8 22, .int .u8 20, .int .u8 15, .int .u8 25, .int .u8 17, .int .u8 4, .int .u8 8, .int .u8 31, .int .u8 27, .int .u8 13, .int .u8 23, .int .u8 21, .int .u8 19, .int .u8 16, .int .u8 7, .int .u8 26, .int .u8 12, .int .u8 18, .int .u8 6, .int .u8 11, .int .u8 5, .int .u8 10, .int .u8 9])).modify 5 (over ([0, 1, 56, 2, 57, 49, 28, 3, 61, 58, 42, 50, 38, 29, 17, 4, 62, 47, 59, 36, 45, 43, 51, 22, 53, 39, 33, 30, 24, 18, 12, 5, 63, 55, 48, 27, 60, 41, 37, 16, 46, 35, 44, 21, 52, 32, 23, 11, 54, 26, 40, 15, 34, 20, 31, 10, 25, 14, 19, 9, 13, 8, 7, 6].map (Value.int .u8)).toArray)).modify 2
    (over (([1, 10, 100, 1000, 10000, 100000, 1000000, 10000000, 100000000, 1000000000, 10000000000, 100000000000, 1000000000000, 10000000000000, 100000000000000, 1000000000000000, 10000000000000000, 100000000000000000, 1000000000000000000, 10000000000000000000] : List Int).map (Value.int .u64)).toArray)).push
    (.cells #[.slice (some ⟨w.heap.size + 1, 0, none⟩) 7 7, .slice none 0 0, .int .i64 2] 336)).push (.cells (rt16.map (Value.int .u16)).toArray 338)) }

theorem u8_wf {a : Int} (ha : (Lit.int .u8 a).wf = true) : 0 ≤ a ∧ a < 256 := by
  simp only [Lit.wf, Bool.and_eq_true, decide_eq_true_eq] at ha
  have h1 : IntKind.u8.min = 0 := rfl
  have h2 : IntKind.u8.max = 255 := rfl
  rw [h1, h2] at ha
  omega

/-- A law of one number, run for each class. -/
theorem calls1 {tb : Tb} (ht : TbOk (laidOf hG) Tryz.prog tb) {g : Nat} {fn : Func} {c : Code} (hfn : Tryz.prog.funcs[g]? = some fn) (hn : (fn.name == "runtime.NumGoroutine") = false) (hb : fn.body = some c) (m N : Nat) (hm : 0 < m)
    (hrun : ∀ r, r < m → evAsk Tryz.prog tb N (.fn (.func g) [] []) [.cls .u8 m r 256] hG (.bool true) = yes) {W : World} {ρ : Rho} (r : RoRel ρ W.heap.size hG W) {a : Int} (ha : (Lit.int .u8 a).wf = true) :
    Calls Tryz.prog g #[.int .u8 a] W fun e w' => e = .returned (.bool true) ∧ Below W.heap.size W w' := by
  have h0 := u8_wf ha
  obtain ⟨h', he⟩ := ask_inv (hrun (a.toNat % m) (Nat.mod_lt _ hm))
  have hA : VRL ρ [.cls .u8 m (a.toNat % m) 256] (#[Value.int .u8 a]).toList := .cons (VR.cls_of h0.1 h0.2) .nil
  refine (calls_of hG_ro hfn hn hb ((evM_ok (progOk _) ht N).2 _ _ _ _ _ he) r hA).mono fun e w' ⟨V, ρ', e1, e2, e3⟩ => ?_
  simp only [VR] at e2
  subst e2
  exact ⟨e1, e3⟩

/-- A law of two numbers, run for each pair of classes. -/
theorem calls2 {tb : Tb} (ht : TbOk (laidOf hG) Tryz.prog tb) {g : Nat} {fn : Func} {c : Code} (hfn : Tryz.prog.funcs[g]? = some fn) (hn : (fn.name == "runtime.NumGoroutine") = false) (hb : fn.body = some c) (m m' N : Nat) (hm : 0 < m) (hm' : 0 < m')
    (hrun : ∀ r r', r < m → r' < m' → evAsk Tryz.prog tb N (.fn (.func g) [] []) [.cls .u8 m r 256, .cls .u8 m' r' 256] hG (.bool true) = yes) {W : World} {ρ : Rho} (r : RoRel ρ W.heap.size hG W) {a a' : Int} (ha : (Lit.int .u8 a).wf = true) (ha' : (Lit.int .u8 a').wf = true) :
    Calls Tryz.prog g #[.int .u8 a, .int .u8 a'] W fun e w' => e = .returned (.bool true) ∧ Below W.heap.size W w' := by
  have h0 := u8_wf ha
  have h0' := u8_wf ha'
  obtain ⟨h', he⟩ := ask_inv (hrun (a.toNat % m) (a'.toNat % m') (Nat.mod_lt _ hm) (Nat.mod_lt _ hm'))
  have hA : VRL ρ [.cls .u8 m (a.toNat % m) 256, .cls .u8 m' (a'.toNat % m') 256] (#[Value.int .u8 a, Value.int .u8 a']).toList := .cons (VR.cls_of h0.1 h0.2) (.cons (VR.cls_of h0'.1 h0'.2) .nil)
  refine (calls_of hG_ro hfn hn hb ((evM_ok (progOk _) ht N).2 _ _ _ _ _ he) r hA).mono fun e w' ⟨V, ρ', e1, e2, e3⟩ => ?_
  simp only [VR] at e2
  subst e2
  exact ⟨e1, e3⟩

end Go.Proofs.YtibpgelajmoefaaGreatDoor
