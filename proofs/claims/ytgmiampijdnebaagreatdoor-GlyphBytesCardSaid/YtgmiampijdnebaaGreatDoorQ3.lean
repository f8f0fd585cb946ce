/-
  slices.SortFunc and slices.SortedFunc at codes, with the comparison of (*Index).Codes. No conditions but on sizes.
-/
import Derived.Test.YtgmiampijdnebaaGreatDoorQ2
import Derived.Test.YtgmiampijdnebaaGreatDoorShelfA
namespace Go.Proofs.YtgmiampijdnebaaGreatDoor
open Go.RowKit Go.Shelf Go.Sort Go.Lib

def cfC (x y : Code) : Int := cmpCode ((x.1 : Int), (x.2 : Int)) ((y.1 : Int), (y.2 : Int))
def ltC (x y : Code) : Bool := decide (x.1 < y.1 ∨ (x.1 = y.1 ∧ x.2 < y.2))
theorem ltOf_cfC : ltOf cfC = ltC := by
  funext x y
  unfold ltOf cfC ltC cmpCode or2 cmpI
  by_cases h1 : x.1 < y.1
  · simp [h1]
  · by_cases h2 : y.1 < x.1
    · simp [h1, h2]; omega
    · have e : x.1 = y.1 := by omega
      by_cases h3 : x.2 < y.2
      · simp [e, h3]
      · by_cases h4 : y.2 < x.2 <;> simp [e, h3, h4]
theorem swoC : SWO ltC where
  irrefl x := by simp [ltC]
  trans x y z h1 h2 := by simp [ltC] at *; omega
  ntrans x y z h1 h2 := by simp [ltC] at *; omega

theorem flatK_cells (L : List Code) : flatK encC 2 L.toArray = (cellsOf L).toArray := by
  apply Array.ext
  · simp [cellsOf_length]
  · intro t h1 h2
    have ht : t < L.length * 2 := by simpa using h1
    have hk : t / 2 < L.length := by omega
    have h := cellsOf_get L (t / 2) hk
    have e1 : (flatK encC 2 L.toArray)[t] = (flatK encC 2 L.toArray)[t]! := (getElem!_pos _ t h1).symm
    rw [e1, get_flatK _ _ _ _ (by simpa using ht)]
    have e2 : L.toArray[t / 2]! = L[t / 2] := by simp [getElem!_pos, hk]
    rw [e2]
    have e3 : (cellsOf L).toArray[t] = (cellsOf L)[t]'(by simpa using h2) := by simp
    rw [e3]
    rcases (show t % 2 = 0 ∨ t % 2 = 1 by omega) with e | e
    · have : t / 2 * 2 = t := by omega
      rw [this] at h
      rw [e, (List.getElem_eq_iff _).2 h.1]
      rfl
    · have : t / 2 * 2 + 1 = t := by omega
      rw [this] at h
      rw [e, (List.getElem_eq_iff _).2 h.2]
      rfl

theorem take_putCells_id (cur : Array Value) (ts : List Value) (h : ts.length ≤ cur.size) : (putCells id 0 ts.toArray cur).toList.take ts.length = ts := by
  apply List.ext_getElem?
  intro j
  by_cases hj : j < ts.length
  · rw [List.getElem?_take_of_lt hj, Array.getElem?_toList]
    simp [putCells, hj, show j < cur.size by omega]
  · rw [List.getElem?_take_eq_none (by omega), List.getElem?_eq_none (by omega)]

/-- The codes, sorted. -/
def sortedC (L : List Code) : List Code := L.mergeSort fun x y => !ltC y x

set_option maxHeartbeats 1000000 in
theorem sortFunc_any (base : Nat) (v : Value) (L : List Code) (hL : L.length < 1000000) (w : World) (ho : w.ownsRow base 30 2 v L.length (cellsOf L)) :
    Calls Tryz.prog 36 #[v, .func (.func 22) #[] #[]] w fun e w' =>
      e = .returned (.tuple #[]) ∧ w'.ownsRow base 30 2 v (sortedC L).length (cellsOf (sortedC L)) ∧ w.grownBy w' v.ownBlock := by
  rcases ho.2 with ⟨rfl, h0⟩ | ⟨g, cap, cur, rfl, hbase, hb, h1, h2, h3, h4⟩
  · have : L = [] := List.length_eq_zero_iff.1 h0
    subst this
    refine (AnyF.slices_SortFunc_none Tryz.sortCodes none 0 _ w).mono ?_
    rintro e w' ⟨rfl, rfl⟩
    exact ⟨rfl, by simpa [sortedC] using ho, ⟨rfl, rfl, rfl, Nat.le_refl _, fun _ _ _ => rfl⟩⟩
  · have eg : ∀ args w, (callFunc 22 args).run Tryz.prog w = .ok (.enter 22 args) w := enters_of Tryz.func22 (by kernel_rfl) rfl
    have hcmp : CmpLays Tryz.prog 22 #[] encC 2 cfC g 0 L.toArray.size w := fun m os dk _ x y => codesCmp_any ((x.1 : Int), (x.2 : Int)) ((y.1 : Int), (y.2 : Int)) _
    have hH : HoldsK encC 2 w g 0 L.toArray := by
      unfold HoldsK
      rw [flatK_cells]
      intro j hj
      have hj' : j < L.length * 2 := by simpa [cellsOf_length] using hj
      refine ⟨?_, by simp [World.frozen?, hb]⟩
      have e : (cur.toList.take (L.length * 2))[j]? = (cellsOf L)[j]? := by rw [h4]
      rw [List.getElem?_take_of_lt hj'] at e
      simp only [World.cell?, hb, Nat.zero_add, Option.isSome_none, Bool.false_eq_true, if_false]
      rw [← Array.getElem?_toList, e]
      simp [show j < (cellsOf L).length by rw [cellsOf_length]; omega]
    have hgl : g < w.heap.size := (Array.getElem?_eq_some_iff.1 hb).1
    have hcon := AnyQ.slices_SortFunc_total Tryz.sortCodes 2 Tryz.isAgg30 Tryz.sizeOf30 encC (fun _ => rfl) (fun x v hv => by simp [encC] at hv; rcases hv with rfl | rfl <;> rfl) cfC (by rw [ltOf_cfC]; exact swoC) 22 #[] g 0 cap L.toArray w eg hcmp hH hgl (by simp; omega)
      (fun x y h1 h2 => by rw [ltOf_cfC] at h1 h2; simp [ltC] at h1 h2; ext <;> omega)
    refine hcon.mono ?_
    rintro e w' ⟨rfl, n, os, rfl⟩
    have hlen : (sortedC L).length = L.length := by simp [sortedC]
    have hworld : sortWorldK encC 2 w g 0 n (L.mergeSort fun x y => !(ltOf cfC) y x).toArray os = grow (putRow id (Sort.ahead w n) g 0 (cellsOf (sortedC L)).toArray) os := by
      unfold sortWorldK putRowK sortedC
      rw [ltOf_cfC, flatK_cells]
    have hgr : w.grownBy (grow (putRow id (Sort.ahead w n) g 0 (cellsOf (sortedC L)).toArray) os) (some g) := by
      refine ⟨rfl, rfl, rfl, by simp, fun k hk hne => ?_⟩
      rw [heap_grow_old _ _ (by simpa using hk)]
      have : g ≠ k := fun e => hne (by rw [e])
      simp [putRow, mapBlock, Sort.ahead, Array.getElem?_modify, this]
    show _ ∧ (sortWorldK encC 2 w g 0 n (L.mergeSort fun x y => !(ltOf cfC) y x).toArray os).ownsRow _ _ _ _ _ _ ∧ w.grownBy (sortWorldK encC 2 w g 0 n (L.mergeSort fun x y => !(ltOf cfC) y x).toArray os) (some g)
    rw [hworld]
    refine ⟨rfl, ⟨by rw [cellsOf_length], .inr ⟨g, cap, putCells id 0 (cellsOf (sortedC L)).toArray cur, ?_, hbase, ?_, by omega, h2, by simp [putCells, h3], ?_⟩⟩, hgr⟩
    · rw [hlen]
    · rw [heap_grow_old _ _ (by simpa using hgl)]
      simp [putRow, mapBlock, Sort.ahead, Array.getElem?_modify, hb, onCells]
    · have := take_putCells_id cur (cellsOf (sortedC L)) (by rw [cellsOf_length, hlen]; omega)
      rwa [cellsOf_length] at this
end Go.Proofs.YtgmiampijdnebaaGreatDoor
