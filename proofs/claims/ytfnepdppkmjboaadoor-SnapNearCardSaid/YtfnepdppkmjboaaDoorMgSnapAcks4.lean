/- WoC: entities and their places: which may be; a world as a thing in memory. Conditions: those of each theorem, on its arguments. -/
import Derived.Test.YtfnepdppkmjboaaDoorMgSnapAcks3
import Derived.SizedLaws
import Derived.ChangeSlices
import Derived.Deep.Grids
import Derived.WalkKit
import Derived.ProofKit
import Derived.OpenShut
import Derived.ShutString
import Derived.ChangeOld
import Derived.Below
import Derived.Deep.Slices
import Derived.DataReads
import Derived.Test.YtfnepdppkmjboaaDoorChecked
import Derived.DeepKeys
import Derived.KernelRfl
namespace Go.Proofs.YtfnepdppkmjboaaDoor
open Go Go.Sx Go.Fp
attribute [local irreducible] jn lv ld st nw asI asB asP asS asY asM asF asA asT lp rn ru rq cl dw dr bnd bn2 nz nn hd hr so eqW
attribute [local irreducible] callOk

structure Ent where
  h : Int
  x : Int
  y : Int
  r : Int
  vx : Int
  vy : Int
  o : Int
  t : Int
deriving DecidableEq

def Ent.cells (e : Ent) : List Value := [.int .i64 e.h, .int .i64 e.x, .int .i64 e.y, .int .i64 e.r, .int .i64 e.vx, .int .i64 e.vy, .int .i64 e.o, .int .i64 e.t]
def Ent.v (e : Ent) : Value := .agg e.cells.toArray
def Ent.box (e : Ent) : Bx := ⟨e.x, e.y, e.r⟩

def inn (n m : Int) : Bool := decide (-m ≤ n) && decide (n ≤ m)
def Ent.boxOk (e : Ent) : Bool := inn e.x 4398046511104 && inn e.y 4398046511104 && decide (1 ≤ e.r) && decide (e.r ≤ 17179869184)
def Ent.argOk (e : Ent) : Bool := inn e.vx 17179869184 && inn e.vy 17179869184 && decide (0 ≤ e.o) && decide (e.o ≤ 8)
def Ent.rightE (e : Ent) : Int := if e.boxOk then if e.argOk then 0 else 1 else 60

theorem wwithin_k {n m : Int} (hm : 0 ≤ m ∧ m ≤ 9223372036854775807) {w : World} {K : Value → World → Prop} (hK : K (.bool (inn n m)) w) : cl Tryd.prog 53 #[.int .i64 n, .int .i64 m] w K := by
  apply F53_calls
  unfold F53
  have e : IntKind.wrap .i64 (0 - m) = -m := by rw [wr64 (by omega) (by omega)]; omega
  rw [e]
  refine jn_mk (cond_split (fun h => asB_i rfl ?_) (fun h => asB_i rfl ?_))
  · have : inn n m = decide (n ≤ m) := by unfold inn; rw [h]; rfl
    rw [← this]; exact hK
  · have : inn n m = false := by unfold inn; rw [h]; rfl
    rw [← this]; exact hK

theorem eright_k {e : Ent} {w : World} {K : Value → World → Prop} (hK : ∀ w', Ext no w w' → K (.int .i64 e.rightE) w') : cl Tryd.prog 43 #[e.v] w K := by
  apply F43_calls
  unfold F43
  have hS := St.start w
  (refine hS.nw ?_; clear hS; intro r1 _ hS)
  refine lv_i (jn_of (fun s w' => ∃ ra rb, s = [.pointer (some ⟨ra, 0, none⟩), .pointer (some ⟨rb, 0, none⟩)] ∧ St w w' [(rb, [.int .i64 e.vx, .int .i64 e.vy], 55), (ra, [.int .i64 e.x, .int .i64 e.y], 55), (r1, e.cells, 59)]) ?_ ?_)
  · clear hS
    rintro _ w1 ⟨ra, rb, rfl, hS⟩
    repeat (first | (refine asI_i rfl ?_) | (refine asB_i rfl ?_) | (refine asN_i rfl ?_) | (refine asP_i rfl ?_) | (refine asS_i rfl ?_) | (refine asY_i rfl ?_) | (refine asM_i rfl ?_) | (refine asA_i rfl rfl ?_) | (refine asT_i rfl rfl ?_) | (refine lv_i ?_))
    refine jn_of (fun s w' => s = [.bool (!e.boxOk)] ∧ St w w' [(rb, [.int .i64 e.vx, .int .i64 e.vy], 55), (ra, [.int .i64 e.x, .int .i64 e.y], 55), (r1, e.cells, 59)]) ?_ ?_
    · clear hS
      rintro _ w2 ⟨rfl, hS⟩
      refine asB_i rfl (cond_split (fun h => lv_i ?_) (fun h => ?_))
      · have hb : ¬ e.boxOk = true := by simpa using h
        have := hK w2 hS.ext
        unfold Ent.rightE at this
        rw [if_neg hb] at this
        exact this
      have hb : e.boxOk = true := by simpa using h
      refine jn_of (fun s w' => s = [.bool (!e.argOk)] ∧ St w w' [(rb, [.int .i64 e.vx, .int .i64 e.vy], 55), (ra, [.int .i64 e.x, .int .i64 e.y], 55), (r1, e.cells, 59)]) ?_ ?_
      · clear hS
        rintro _ w3 ⟨rfl, hS⟩
        have := hK w3 hS.ext
        unfold Ent.rightE at this
        rw [if_pos hb] at this
        refine asB_i rfl (cond_split (fun h => lv_i ?_) (fun h => lv_i ?_))
        · rw [if_neg (by simpa using h)] at this
          exact this
        · rw [if_pos (by simpa using h)] at this
          exact this
      · intro J hJ
        refine dr_i ?_
        repeat (first | (refine dr_i ?_) | (refine asI_i rfl ?_) | (refine asB_i rfl ?_) | (refine asN_i rfl ?_) | (refine asP_i rfl ?_) | (refine asS_i rfl ?_) | (refine asY_i rfl ?_) | (refine asM_i rfl ?_) | (refine asA_i rfl rfl ?_) | (refine asT_i rfl rfl ?_) | (refine lv_i ?_) | (refine hS.nw ?_; clear hS; intro _ _ hS) | (refine hS.dw ?_; clear hS; intro _ hS _) | (refine hS.ld0 0 rfl rfl ?_) | (refine hS.ld 0 rfl rfl ?_) | (refine hS.ld0 1 rfl rfl ?_) | (refine hS.ld 1 rfl rfl ?_) | (refine hS.ld0 2 rfl rfl ?_) | (refine hS.ld 2 rfl rfl ?_) | (refine hS.ld0 3 rfl rfl ?_) | (refine hS.ld 3 rfl rfl ?_) | (refine hS.ld0 4 rfl rfl ?_) | (refine hS.ld 4 rfl rfl ?_) | (refine hS.ld0 5 rfl rfl ?_) | (refine hS.ld 5 rfl rfl ?_) | (refine hS.ldd 0 rfl rfl ?_) | (refine hS.ldd 1 rfl rfl ?_) | (refine hS.ldd 2 rfl rfl ?_) | (refine hS.ldd 3 rfl rfl ?_) | (refine hS.ldd 4 rfl rfl ?_) | (refine hS.ldd 5 rfl rfl ?_) | (refine hS.hd0 0 rfl rfl ?_) | (refine hS.hd 0 rfl rfl ?_) | (refine hS.hd0 1 rfl rfl ?_) | (refine hS.hd 1 rfl rfl ?_) | (refine hS.hd0 2 rfl rfl ?_) | (refine hS.hd 2 rfl rfl ?_) | (refine hS.hd0 3 rfl rfl ?_) | (refine hS.hd 3 rfl rfl ?_) | (refine hS.hd0 4 rfl rfl ?_) | (refine hS.hd 4 rfl rfl ?_) | (refine hS.hd0 5 rfl rfl ?_) | (refine hS.hd 5 rfl rfl ?_) | (refine hS.hdd 0 rfl rfl ?_) | (refine hS.hdd 1 rfl rfl ?_) | (refine hS.hdd 2 rfl rfl ?_) | (refine hS.hdd 3 rfl rfl ?_) | (refine hS.hdd 4 rfl rfl ?_) | (refine hS.hdd 5 rfl rfl ?_) | (refine hS.st0 0 rfl rfl rfl ?_; clear hS; intro _ hS) | (refine hS.st 0 rfl rfl rfl ?_; clear hS; intro _ hS) | (refine hS.st0 1 rfl rfl rfl ?_; clear hS; intro _ hS) | (refine hS.st 1 rfl rfl rfl ?_; clear hS; intro _ hS) | (refine hS.st0 2 rfl rfl rfl ?_; clear hS; intro _ hS) | (refine hS.st 2 rfl rfl rfl ?_; clear hS; intro _ hS) | (refine hS.st0 3 rfl rfl rfl ?_; clear hS; intro _ hS) | (refine hS.st 3 rfl rfl rfl ?_; clear hS; intro _ hS) | (refine hS.st0 4 rfl rfl rfl ?_; clear hS; intro _ hS) | (refine hS.st 4 rfl rfl rfl ?_; clear hS; intro _ hS) | (refine hS.st0 5 rfl rfl rfl ?_; clear hS; intro _ hS) | (refine hS.st 5 rfl rfl rfl ?_; clear hS; intro _ hS) | (refine hS.std 0 rfl rfl rfl ?_; clear hS; intro _ hS) | (refine hS.std 1 rfl rfl rfl ?_; clear hS; intro _ hS) | (refine hS.std 2 rfl rfl rfl ?_; clear hS; intro _ hS) | (refine hS.std 3 rfl rfl rfl ?_; clear hS; intro _ hS) | (refine hS.std 4 rfl rfl rfl ?_; clear hS; intro _ hS) | (refine hS.std 5 rfl rfl rfl ?_; clear hS; intro _ hS) | (refine bnd_mk (by decide) (by decide) ?_) | (refine so_i rfl ?_))
        refine wwithin_k (by decide) (asB_i rfl (cond_split (fun h => hJ _ _ ⟨?_, hS⟩) (fun h => dr_i ?_)))
        · have : inn e.vx 17179869184 = false := by simpa using h
          unfold Ent.argOk; rw [this]; rfl
        have h1 : inn e.vx 17179869184 = true := by simpa using h
        repeat (first | (refine dr_i ?_) | (refine asI_i rfl ?_) | (refine asB_i rfl ?_) | (refine asN_i rfl ?_) | (refine asP_i rfl ?_) | (refine asS_i rfl ?_) | (refine asY_i rfl ?_) | (refine asM_i rfl ?_) | (refine asA_i rfl rfl ?_) | (refine asT_i rfl rfl ?_) | (refine lv_i ?_) | (refine hS.nw ?_; clear hS; intro _ _ hS) | (refine hS.dw ?_; clear hS; intro _ hS _) | (refine hS.ld0 0 rfl rfl ?_) | (refine hS.ld 0 rfl rfl ?_) | (refine hS.ld0 1 rfl rfl ?_) | (refine hS.ld 1 rfl rfl ?_) | (refine hS.ld0 2 rfl rfl ?_) | (refine hS.ld 2 rfl rfl ?_) | (refine hS.ld0 3 rfl rfl ?_) | (refine hS.ld 3 rfl rfl ?_) | (refine hS.ld0 4 rfl rfl ?_) | (refine hS.ld 4 rfl rfl ?_) | (refine hS.ld0 5 rfl rfl ?_) | (refine hS.ld 5 rfl rfl ?_) | (refine hS.ldd 0 rfl rfl ?_) | (refine hS.ldd 1 rfl rfl ?_) | (refine hS.ldd 2 rfl rfl ?_) | (refine hS.ldd 3 rfl rfl ?_) | (refine hS.ldd 4 rfl rfl ?_) | (refine hS.ldd 5 rfl rfl ?_) | (refine hS.hd0 0 rfl rfl ?_) | (refine hS.hd 0 rfl rfl ?_) | (refine hS.hd0 1 rfl rfl ?_) | (refine hS.hd 1 rfl rfl ?_) | (refine hS.hd0 2 rfl rfl ?_) | (refine hS.hd 2 rfl rfl ?_) | (refine hS.hd0 3 rfl rfl ?_) | (refine hS.hd 3 rfl rfl ?_) | (refine hS.hd0 4 rfl rfl ?_) | (refine hS.hd 4 rfl rfl ?_) | (refine hS.hd0 5 rfl rfl ?_) | (refine hS.hd 5 rfl rfl ?_) | (refine hS.hdd 0 rfl rfl ?_) | (refine hS.hdd 1 rfl rfl ?_) | (refine hS.hdd 2 rfl rfl ?_) | (refine hS.hdd 3 rfl rfl ?_) | (refine hS.hdd 4 rfl rfl ?_) | (refine hS.hdd 5 rfl rfl ?_) | (refine hS.st0 0 rfl rfl rfl ?_; clear hS; intro _ hS) | (refine hS.st 0 rfl rfl rfl ?_; clear hS; intro _ hS) | (refine hS.st0 1 rfl rfl rfl ?_; clear hS; intro _ hS) | (refine hS.st 1 rfl rfl rfl ?_; clear hS; intro _ hS) | (refine hS.st0 2 rfl rfl rfl ?_; clear hS; intro _ hS) | (refine hS.st 2 rfl rfl rfl ?_; clear hS; intro _ hS) | (refine hS.st0 3 rfl rfl rfl ?_; clear hS; intro _ hS) | (refine hS.st 3 rfl rfl rfl ?_; clear hS; intro _ hS) | (refine hS.st0 4 rfl rfl rfl ?_; clear hS; intro _ hS) | (refine hS.st 4 rfl rfl rfl ?_; clear hS; intro _ hS) | (refine hS.st0 5 rfl rfl rfl ?_; clear hS; intro _ hS) | (refine hS.st 5 rfl rfl rfl ?_; clear hS; intro _ hS) | (refine hS.std 0 rfl rfl rfl ?_; clear hS; intro _ hS) | (refine hS.std 1 rfl rfl rfl ?_; clear hS; intro _ hS) | (refine hS.std 2 rfl rfl rfl ?_; clear hS; intro _ hS) | (refine hS.std 3 rfl rfl rfl ?_; clear hS; intro _ hS) | (refine hS.std 4 rfl rfl rfl ?_; clear hS; intro _ hS) | (refine hS.std 5 rfl rfl rfl ?_; clear hS; intro _ hS) | (refine bnd_mk (by decide) (by decide) ?_) | (refine so_i rfl ?_))
        refine wwithin_k (by decide) (asB_i rfl (cond_split (fun h => hJ _ _ ⟨?_, hS⟩) (fun h => ?_)))
        · have : inn e.vy 17179869184 = false := by simpa using h
          unfold Ent.argOk; rw [this, h1]; rfl
        have h2 : inn e.vy 17179869184 = true := by simpa using h
        repeat (first | (refine dr_i ?_) | (refine asI_i rfl ?_) | (refine asB_i rfl ?_) | (refine asN_i rfl ?_) | (refine asP_i rfl ?_) | (refine asS_i rfl ?_) | (refine asY_i rfl ?_) | (refine asM_i rfl ?_) | (refine asA_i rfl rfl ?_) | (refine asT_i rfl rfl ?_) | (refine lv_i ?_) | (refine hS.nw ?_; clear hS; intro _ _ hS) | (refine hS.dw ?_; clear hS; intro _ hS _) | (refine hS.ld0 0 rfl rfl ?_) | (refine hS.ld 0 rfl rfl ?_) | (refine hS.ld0 1 rfl rfl ?_) | (refine hS.ld 1 rfl rfl ?_) | (refine hS.ld0 2 rfl rfl ?_) | (refine hS.ld 2 rfl rfl ?_) | (refine hS.ld0 3 rfl rfl ?_) | (refine hS.ld 3 rfl rfl ?_) | (refine hS.ld0 4 rfl rfl ?_) | (refine hS.ld 4 rfl rfl ?_) | (refine hS.ld0 5 rfl rfl ?_) | (refine hS.ld 5 rfl rfl ?_) | (refine hS.ldd 0 rfl rfl ?_) | (refine hS.ldd 1 rfl rfl ?_) | (refine hS.ldd 2 rfl rfl ?_) | (refine hS.ldd 3 rfl rfl ?_) | (refine hS.ldd 4 rfl rfl ?_) | (refine hS.ldd 5 rfl rfl ?_) | (refine hS.hd0 0 rfl rfl ?_) | (refine hS.hd 0 rfl rfl ?_) | (refine hS.hd0 1 rfl rfl ?_) | (refine hS.hd 1 rfl rfl ?_) | (refine hS.hd0 2 rfl rfl ?_) | (refine hS.hd 2 rfl rfl ?_) | (refine hS.hd0 3 rfl rfl ?_) | (refine hS.hd 3 rfl rfl ?_) | (refine hS.hd0 4 rfl rfl ?_) | (refine hS.hd 4 rfl rfl ?_) | (refine hS.hd0 5 rfl rfl ?_) | (refine hS.hd 5 rfl rfl ?_) | (refine hS.hdd 0 rfl rfl ?_) | (refine hS.hdd 1 rfl rfl ?_) | (refine hS.hdd 2 rfl rfl ?_) | (refine hS.hdd 3 rfl rfl ?_) | (refine hS.hdd 4 rfl rfl ?_) | (refine hS.hdd 5 rfl rfl ?_) | (refine hS.st0 0 rfl rfl rfl ?_; clear hS; intro _ hS) | (refine hS.st 0 rfl rfl rfl ?_; clear hS; intro _ hS) | (refine hS.st0 1 rfl rfl rfl ?_; clear hS; intro _ hS) | (refine hS.st 1 rfl rfl rfl ?_; clear hS; intro _ hS) | (refine hS.st0 2 rfl rfl rfl ?_; clear hS; intro _ hS) | (refine hS.st 2 rfl rfl rfl ?_; clear hS; intro _ hS) | (refine hS.st0 3 rfl rfl rfl ?_; clear hS; intro _ hS) | (refine hS.st 3 rfl rfl rfl ?_; clear hS; intro _ hS) | (refine hS.st0 4 rfl rfl rfl ?_; clear hS; intro _ hS) | (refine hS.st 4 rfl rfl rfl ?_; clear hS; intro _ hS) | (refine hS.st0 5 rfl rfl rfl ?_; clear hS; intro _ hS) | (refine hS.st 5 rfl rfl rfl ?_; clear hS; intro _ hS) | (refine hS.std 0 rfl rfl rfl ?_; clear hS; intro _ hS) | (refine hS.std 1 rfl rfl rfl ?_; clear hS; intro _ hS) | (refine hS.std 2 rfl rfl rfl ?_; clear hS; intro _ hS) | (refine hS.std 3 rfl rfl rfl ?_; clear hS; intro _ hS) | (refine hS.std 4 rfl rfl rfl ?_; clear hS; intro _ hS) | (refine hS.std 5 rfl rfl rfl ?_; clear hS; intro _ hS) | (refine bnd_mk (by decide) (by decide) ?_) | (refine so_i rfl ?_))
        refine cond_split (fun h => hJ _ _ ⟨?_, hS⟩) (fun h => ?_)
        · have h3 := of_decide_eq_true h
          unfold Ent.argOk
          rw [h1, h2, h, decide_eq_false (show ¬ 0 ≤ e.o by omega)]; rfl
        have h3 := of_decide_eq_false h
        repeat (first | (refine dr_i ?_) | (refine asI_i rfl ?_) | (refine asB_i rfl ?_) | (refine asN_i rfl ?_) | (refine asP_i rfl ?_) | (refine asS_i rfl ?_) | (refine asY_i rfl ?_) | (refine asM_i rfl ?_) | (refine asA_i rfl rfl ?_) | (refine asT_i rfl rfl ?_) | (refine lv_i ?_) | (refine hS.nw ?_; clear hS; intro _ _ hS) | (refine hS.dw ?_; clear hS; intro _ hS _) | (refine hS.ld0 0 rfl rfl ?_) | (refine hS.ld 0 rfl rfl ?_) | (refine hS.ld0 1 rfl rfl ?_) | (refine hS.ld 1 rfl rfl ?_) | (refine hS.ld0 2 rfl rfl ?_) | (refine hS.ld 2 rfl rfl ?_) | (refine hS.ld0 3 rfl rfl ?_) | (refine hS.ld 3 rfl rfl ?_) | (refine hS.ld0 4 rfl rfl ?_) | (refine hS.ld 4 rfl rfl ?_) | (refine hS.ld0 5 rfl rfl ?_) | (refine hS.ld 5 rfl rfl ?_) | (refine hS.ldd 0 rfl rfl ?_) | (refine hS.ldd 1 rfl rfl ?_) | (refine hS.ldd 2 rfl rfl ?_) | (refine hS.ldd 3 rfl rfl ?_) | (refine hS.ldd 4 rfl rfl ?_) | (refine hS.ldd 5 rfl rfl ?_) | (refine hS.hd0 0 rfl rfl ?_) | (refine hS.hd 0 rfl rfl ?_) | (refine hS.hd0 1 rfl rfl ?_) | (refine hS.hd 1 rfl rfl ?_) | (refine hS.hd0 2 rfl rfl ?_) | (refine hS.hd 2 rfl rfl ?_) | (refine hS.hd0 3 rfl rfl ?_) | (refine hS.hd 3 rfl rfl ?_) | (refine hS.hd0 4 rfl rfl ?_) | (refine hS.hd 4 rfl rfl ?_) | (refine hS.hd0 5 rfl rfl ?_) | (refine hS.hd 5 rfl rfl ?_) | (refine hS.hdd 0 rfl rfl ?_) | (refine hS.hdd 1 rfl rfl ?_) | (refine hS.hdd 2 rfl rfl ?_) | (refine hS.hdd 3 rfl rfl ?_) | (refine hS.hdd 4 rfl rfl ?_) | (refine hS.hdd 5 rfl rfl ?_) | (refine hS.st0 0 rfl rfl rfl ?_; clear hS; intro _ hS) | (refine hS.st 0 rfl rfl rfl ?_; clear hS; intro _ hS) | (refine hS.st0 1 rfl rfl rfl ?_; clear hS; intro _ hS) | (refine hS.st 1 rfl rfl rfl ?_; clear hS; intro _ hS) | (refine hS.st0 2 rfl rfl rfl ?_; clear hS; intro _ hS) | (refine hS.st 2 rfl rfl rfl ?_; clear hS; intro _ hS) | (refine hS.st0 3 rfl rfl rfl ?_; clear hS; intro _ hS) | (refine hS.st 3 rfl rfl rfl ?_; clear hS; intro _ hS) | (refine hS.st0 4 rfl rfl rfl ?_; clear hS; intro _ hS) | (refine hS.st 4 rfl rfl rfl ?_; clear hS; intro _ hS) | (refine hS.st0 5 rfl rfl rfl ?_; clear hS; intro _ hS) | (refine hS.st 5 rfl rfl rfl ?_; clear hS; intro _ hS) | (refine hS.std 0 rfl rfl rfl ?_; clear hS; intro _ hS) | (refine hS.std 1 rfl rfl rfl ?_; clear hS; intro _ hS) | (refine hS.std 2 rfl rfl rfl ?_; clear hS; intro _ hS) | (refine hS.std 3 rfl rfl rfl ?_; clear hS; intro _ hS) | (refine hS.std 4 rfl rfl rfl ?_; clear hS; intro _ hS) | (refine hS.std 5 rfl rfl rfl ?_; clear hS; intro _ hS) | (refine bnd_mk (by decide) (by decide) ?_) | (refine so_i rfl ?_))
        refine hJ _ _ ⟨?_, hS⟩
        unfold Ent.argOk
        rw [h1, h2, decide_eq_true (show 0 ≤ e.o by omega)]
        congr 2
        simp only [Bool.true_and]
        by_cases h4 : e.o ≤ 8
        · rw [decide_eq_true h4, decide_eq_false (by omega)]; rfl
        · rw [decide_eq_false h4, decide_eq_true (by omega)]; rfl
    · intro J hJ
      refine dr_i ?_
      repeat (first | (refine dr_i ?_) | (refine asI_i rfl ?_) | (refine asB_i rfl ?_) | (refine asN_i rfl ?_) | (refine asP_i rfl ?_) | (refine asS_i rfl ?_) | (refine asY_i rfl ?_) | (refine asM_i rfl ?_) | (refine asA_i rfl rfl ?_) | (refine asT_i rfl rfl ?_) | (refine lv_i ?_) | (refine hS.nw ?_; clear hS; intro _ _ hS) | (refine hS.dw ?_; clear hS; intro _ hS _) | (refine hS.ld0 0 rfl rfl ?_) | (refine hS.ld 0 rfl rfl ?_) | (refine hS.ld0 1 rfl rfl ?_) | (refine hS.ld 1 rfl rfl ?_) | (refine hS.ld0 2 rfl rfl ?_) | (refine hS.ld 2 rfl rfl ?_) | (refine hS.ld0 3 rfl rfl ?_) | (refine hS.ld 3 rfl rfl ?_) | (refine hS.ld0 4 rfl rfl ?_) | (refine hS.ld 4 rfl rfl ?_) | (refine hS.ld0 5 rfl rfl ?_) | (refine hS.ld 5 rfl rfl ?_) | (refine hS.ldd 0 rfl rfl ?_) | (refine hS.ldd 1 rfl rfl ?_) | (refine hS.ldd 2 rfl rfl ?_) | (refine hS.ldd 3 rfl rfl ?_) | (refine hS.ldd 4 rfl rfl ?_) | (refine hS.ldd 5 rfl rfl ?_) | (refine hS.hd0 0 rfl rfl ?_) | (refine hS.hd 0 rfl rfl ?_) | (refine hS.hd0 1 rfl rfl ?_) | (refine hS.hd 1 rfl rfl ?_) | (refine hS.hd0 2 rfl rfl ?_) | (refine hS.hd 2 rfl rfl ?_) | (refine hS.hd0 3 rfl rfl ?_) | (refine hS.hd 3 rfl rfl ?_) | (refine hS.hd0 4 rfl rfl ?_) | (refine hS.hd 4 rfl rfl ?_) | (refine hS.hd0 5 rfl rfl ?_) | (refine hS.hd 5 rfl rfl ?_) | (refine hS.hdd 0 rfl rfl ?_) | (refine hS.hdd 1 rfl rfl ?_) | (refine hS.hdd 2 rfl rfl ?_) | (refine hS.hdd 3 rfl rfl ?_) | (refine hS.hdd 4 rfl rfl ?_) | (refine hS.hdd 5 rfl rfl ?_) | (refine hS.st0 0 rfl rfl rfl ?_; clear hS; intro _ hS) | (refine hS.st 0 rfl rfl rfl ?_; clear hS; intro _ hS) | (refine hS.st0 1 rfl rfl rfl ?_; clear hS; intro _ hS) | (refine hS.st 1 rfl rfl rfl ?_; clear hS; intro _ hS) | (refine hS.st0 2 rfl rfl rfl ?_; clear hS; intro _ hS) | (refine hS.st 2 rfl rfl rfl ?_; clear hS; intro _ hS) | (refine hS.st0 3 rfl rfl rfl ?_; clear hS; intro _ hS) | (refine hS.st 3 rfl rfl rfl ?_; clear hS; intro _ hS) | (refine hS.st0 4 rfl rfl rfl ?_; clear hS; intro _ hS) | (refine hS.st 4 rfl rfl rfl ?_; clear hS; intro _ hS) | (refine hS.st0 5 rfl rfl rfl ?_; clear hS; intro _ hS) | (refine hS.st 5 rfl rfl rfl ?_; clear hS; intro _ hS) | (refine hS.std 0 rfl rfl rfl ?_; clear hS; intro _ hS) | (refine hS.std 1 rfl rfl rfl ?_; clear hS; intro _ hS) | (refine hS.std 2 rfl rfl rfl ?_; clear hS; intro _ hS) | (refine hS.std 3 rfl rfl rfl ?_; clear hS; intro _ hS) | (refine hS.std 4 rfl rfl rfl ?_; clear hS; intro _ hS) | (refine hS.std 5 rfl rfl rfl ?_; clear hS; intro _ hS) | (refine bnd_mk (by decide) (by decide) ?_) | (refine so_i rfl ?_))
      refine wwithin_k (by decide) (asB_i rfl (cond_split (fun h => hJ _ _ ⟨?_, hS⟩) (fun h => dr_i ?_)))
      · have : inn e.x 4398046511104 = false := by simpa using h
        unfold Ent.boxOk; rw [this]; rfl
      have h1 : inn e.x 4398046511104 = true := by simpa using h
      repeat (first | (refine dr_i ?_) | (refine asI_i rfl ?_) | (refine asB_i rfl ?_) | (refine asN_i rfl ?_) | (refine asP_i rfl ?_) | (refine asS_i rfl ?_) | (refine asY_i rfl ?_) | (refine asM_i rfl ?_) | (refine asA_i rfl rfl ?_) | (refine asT_i rfl rfl ?_) | (refine lv_i ?_) | (refine hS.nw ?_; clear hS; intro _ _ hS) | (refine hS.dw ?_; clear hS; intro _ hS _) | (refine hS.ld0 0 rfl rfl ?_) | (refine hS.ld 0 rfl rfl ?_) | (refine hS.ld0 1 rfl rfl ?_) | (refine hS.ld 1 rfl rfl ?_) | (refine hS.ld0 2 rfl rfl ?_) | (refine hS.ld 2 rfl rfl ?_) | (refine hS.ld0 3 rfl rfl ?_) | (refine hS.ld 3 rfl rfl ?_) | (refine hS.ld0 4 rfl rfl ?_) | (refine hS.ld 4 rfl rfl ?_) | (refine hS.ld0 5 rfl rfl ?_) | (refine hS.ld 5 rfl rfl ?_) | (refine hS.ldd 0 rfl rfl ?_) | (refine hS.ldd 1 rfl rfl ?_) | (refine hS.ldd 2 rfl rfl ?_) | (refine hS.ldd 3 rfl rfl ?_) | (refine hS.ldd 4 rfl rfl ?_) | (refine hS.ldd 5 rfl rfl ?_) | (refine hS.hd0 0 rfl rfl ?_) | (refine hS.hd 0 rfl rfl ?_) | (refine hS.hd0 1 rfl rfl ?_) | (refine hS.hd 1 rfl rfl ?_) | (refine hS.hd0 2 rfl rfl ?_) | (refine hS.hd 2 rfl rfl ?_) | (refine hS.hd0 3 rfl rfl ?_) | (refine hS.hd 3 rfl rfl ?_) | (refine hS.hd0 4 rfl rfl ?_) | (refine hS.hd 4 rfl rfl ?_) | (refine hS.hd0 5 rfl rfl ?_) | (refine hS.hd 5 rfl rfl ?_) | (refine hS.hdd 0 rfl rfl ?_) | (refine hS.hdd 1 rfl rfl ?_) | (refine hS.hdd 2 rfl rfl ?_) | (refine hS.hdd 3 rfl rfl ?_) | (refine hS.hdd 4 rfl rfl ?_) | (refine hS.hdd 5 rfl rfl ?_) | (refine hS.st0 0 rfl rfl rfl ?_; clear hS; intro _ hS) | (refine hS.st 0 rfl rfl rfl ?_; clear hS; intro _ hS) | (refine hS.st0 1 rfl rfl rfl ?_; clear hS; intro _ hS) | (refine hS.st 1 rfl rfl rfl ?_; clear hS; intro _ hS) | (refine hS.st0 2 rfl rfl rfl ?_; clear hS; intro _ hS) | (refine hS.st 2 rfl rfl rfl ?_; clear hS; intro _ hS) | (refine hS.st0 3 rfl rfl rfl ?_; clear hS; intro _ hS) | (refine hS.st 3 rfl rfl rfl ?_; clear hS; intro _ hS) | (refine hS.st0 4 rfl rfl rfl ?_; clear hS; intro _ hS) | (refine hS.st 4 rfl rfl rfl ?_; clear hS; intro _ hS) | (refine hS.st0 5 rfl rfl rfl ?_; clear hS; intro _ hS) | (refine hS.st 5 rfl rfl rfl ?_; clear hS; intro _ hS) | (refine hS.std 0 rfl rfl rfl ?_; clear hS; intro _ hS) | (refine hS.std 1 rfl rfl rfl ?_; clear hS; intro _ hS) | (refine hS.std 2 rfl rfl rfl ?_; clear hS; intro _ hS) | (refine hS.std 3 rfl rfl rfl ?_; clear hS; intro _ hS) | (refine hS.std 4 rfl rfl rfl ?_; clear hS; intro _ hS) | (refine hS.std 5 rfl rfl rfl ?_; clear hS; intro _ hS) | (refine bnd_mk (by decide) (by decide) ?_) | (refine so_i rfl ?_))
      refine wwithin_k (by decide) (asB_i rfl (cond_split (fun h => hJ _ _ ⟨?_, hS⟩) (fun h => ?_)))
      · have : inn e.y 4398046511104 = false := by simpa using h
        unfold Ent.boxOk; rw [this, h1]; rfl
      have h2 : inn e.y 4398046511104 = true := by simpa using h
      repeat (first | (refine dr_i ?_) | (refine asI_i rfl ?_) | (refine asB_i rfl ?_) | (refine asN_i rfl ?_) | (refine asP_i rfl ?_) | (refine asS_i rfl ?_) | (refine asY_i rfl ?_) | (refine asM_i rfl ?_) | (refine asA_i rfl rfl ?_) | (refine asT_i rfl rfl ?_) | (refine lv_i ?_) | (refine hS.nw ?_; clear hS; intro _ _ hS) | (refine hS.dw ?_; clear hS; intro _ hS _) | (refine hS.ld0 0 rfl rfl ?_) | (refine hS.ld 0 rfl rfl ?_) | (refine hS.ld0 1 rfl rfl ?_) | (refine hS.ld 1 rfl rfl ?_) | (refine hS.ld0 2 rfl rfl ?_) | (refine hS.ld 2 rfl rfl ?_) | (refine hS.ld0 3 rfl rfl ?_) | (refine hS.ld 3 rfl rfl ?_) | (refine hS.ld0 4 rfl rfl ?_) | (refine hS.ld 4 rfl rfl ?_) | (refine hS.ld0 5 rfl rfl ?_) | (refine hS.ld 5 rfl rfl ?_) | (refine hS.ldd 0 rfl rfl ?_) | (refine hS.ldd 1 rfl rfl ?_) | (refine hS.ldd 2 rfl rfl ?_) | (refine hS.ldd 3 rfl rfl ?_) | (refine hS.ldd 4 rfl rfl ?_) | (refine hS.ldd 5 rfl rfl ?_) | (refine hS.hd0 0 rfl rfl ?_) | (refine hS.hd 0 rfl rfl ?_) | (refine hS.hd0 1 rfl rfl ?_) | (refine hS.hd 1 rfl rfl ?_) | (refine hS.hd0 2 rfl rfl ?_) | (refine hS.hd 2 rfl rfl ?_) | (refine hS.hd0 3 rfl rfl ?_) | (refine hS.hd 3 rfl rfl ?_) | (refine hS.hd0 4 rfl rfl ?_) | (refine hS.hd 4 rfl rfl ?_) | (refine hS.hd0 5 rfl rfl ?_) | (refine hS.hd 5 rfl rfl ?_) | (refine hS.hdd 0 rfl rfl ?_) | (refine hS.hdd 1 rfl rfl ?_) | (refine hS.hdd 2 rfl rfl ?_) | (refine hS.hdd 3 rfl rfl ?_) | (refine hS.hdd 4 rfl rfl ?_) | (refine hS.hdd 5 rfl rfl ?_) | (refine hS.st0 0 rfl rfl rfl ?_; clear hS; intro _ hS) | (refine hS.st 0 rfl rfl rfl ?_; clear hS; intro _ hS) | (refine hS.st0 1 rfl rfl rfl ?_; clear hS; intro _ hS) | (refine hS.st 1 rfl rfl rfl ?_; clear hS; intro _ hS) | (refine hS.st0 2 rfl rfl rfl ?_; clear hS; intro _ hS) | (refine hS.st 2 rfl rfl rfl ?_; clear hS; intro _ hS) | (refine hS.st0 3 rfl rfl rfl ?_; clear hS; intro _ hS) | (refine hS.st 3 rfl rfl rfl ?_; clear hS; intro _ hS) | (refine hS.st0 4 rfl rfl rfl ?_; clear hS; intro _ hS) | (refine hS.st 4 rfl rfl rfl ?_; clear hS; intro _ hS) | (refine hS.st0 5 rfl rfl rfl ?_; clear hS; intro _ hS) | (refine hS.st 5 rfl rfl rfl ?_; clear hS; intro _ hS) | (refine hS.std 0 rfl rfl rfl ?_; clear hS; intro _ hS) | (refine hS.std 1 rfl rfl rfl ?_; clear hS; intro _ hS) | (refine hS.std 2 rfl rfl rfl ?_; clear hS; intro _ hS) | (refine hS.std 3 rfl rfl rfl ?_; clear hS; intro _ hS) | (refine hS.std 4 rfl rfl rfl ?_; clear hS; intro _ hS) | (refine hS.std 5 rfl rfl rfl ?_; clear hS; intro _ hS) | (refine bnd_mk (by decide) (by decide) ?_) | (refine so_i rfl ?_))
      refine cond_split (fun h => hJ _ _ ⟨?_, hS⟩) (fun h => ?_)
      · have h3 := of_decide_eq_true h
        unfold Ent.boxOk
        rw [h1, h2, h, decide_eq_false (show ¬ 1 ≤ e.r by omega)]; rfl
      have h3 := of_decide_eq_false h
      repeat (first | (refine dr_i ?_) | (refine asI_i rfl ?_) | (refine asB_i rfl ?_) | (refine asN_i rfl ?_) | (refine asP_i rfl ?_) | (refine asS_i rfl ?_) | (refine asY_i rfl ?_) | (refine asM_i rfl ?_) | (refine asA_i rfl rfl ?_) | (refine asT_i rfl rfl ?_) | (refine lv_i ?_) | (refine hS.nw ?_; clear hS; intro _ _ hS) | (refine hS.dw ?_; clear hS; intro _ hS _) | (refine hS.ld0 0 rfl rfl ?_) | (refine hS.ld 0 rfl rfl ?_) | (refine hS.ld0 1 rfl rfl ?_) | (refine hS.ld 1 rfl rfl ?_) | (refine hS.ld0 2 rfl rfl ?_) | (refine hS.ld 2 rfl rfl ?_) | (refine hS.ld0 3 rfl rfl ?_) | (refine hS.ld 3 rfl rfl ?_) | (refine hS.ld0 4 rfl rfl ?_) | (refine hS.ld 4 rfl rfl ?_) | (refine hS.ld0 5 rfl rfl ?_) | (refine hS.ld 5 rfl rfl ?_) | (refine hS.ldd 0 rfl rfl ?_) | (refine hS.ldd 1 rfl rfl ?_) | (refine hS.ldd 2 rfl rfl ?_) | (refine hS.ldd 3 rfl rfl ?_) | (refine hS.ldd 4 rfl rfl ?_) | (refine hS.ldd 5 rfl rfl ?_) | (refine hS.hd0 0 rfl rfl ?_) | (refine hS.hd 0 rfl rfl ?_) | (refine hS.hd0 1 rfl rfl ?_) | (refine hS.hd 1 rfl rfl ?_) | (refine hS.hd0 2 rfl rfl ?_) | (refine hS.hd 2 rfl rfl ?_) | (refine hS.hd0 3 rfl rfl ?_) | (refine hS.hd 3 rfl rfl ?_) | (refine hS.hd0 4 rfl rfl ?_) | (refine hS.hd 4 rfl rfl ?_) | (refine hS.hd0 5 rfl rfl ?_) | (refine hS.hd 5 rfl rfl ?_) | (refine hS.hdd 0 rfl rfl ?_) | (refine hS.hdd 1 rfl rfl ?_) | (refine hS.hdd 2 rfl rfl ?_) | (refine hS.hdd 3 rfl rfl ?_) | (refine hS.hdd 4 rfl rfl ?_) | (refine hS.hdd 5 rfl rfl ?_) | (refine hS.st0 0 rfl rfl rfl ?_; clear hS; intro _ hS) | (refine hS.st 0 rfl rfl rfl ?_; clear hS; intro _ hS) | (refine hS.st0 1 rfl rfl rfl ?_; clear hS; intro _ hS) | (refine hS.st 1 rfl rfl rfl ?_; clear hS; intro _ hS) | (refine hS.st0 2 rfl rfl rfl ?_; clear hS; intro _ hS) | (refine hS.st 2 rfl rfl rfl ?_; clear hS; intro _ hS) | (refine hS.st0 3 rfl rfl rfl ?_; clear hS; intro _ hS) | (refine hS.st 3 rfl rfl rfl ?_; clear hS; intro _ hS) | (refine hS.st0 4 rfl rfl rfl ?_; clear hS; intro _ hS) | (refine hS.st 4 rfl rfl rfl ?_; clear hS; intro _ hS) | (refine hS.st0 5 rfl rfl rfl ?_; clear hS; intro _ hS) | (refine hS.st 5 rfl rfl rfl ?_; clear hS; intro _ hS) | (refine hS.std 0 rfl rfl rfl ?_; clear hS; intro _ hS) | (refine hS.std 1 rfl rfl rfl ?_; clear hS; intro _ hS) | (refine hS.std 2 rfl rfl rfl ?_; clear hS; intro _ hS) | (refine hS.std 3 rfl rfl rfl ?_; clear hS; intro _ hS) | (refine hS.std 4 rfl rfl rfl ?_; clear hS; intro _ hS) | (refine hS.std 5 rfl rfl rfl ?_; clear hS; intro _ hS) | (refine bnd_mk (by decide) (by decide) ?_) | (refine so_i rfl ?_))
      refine hJ _ _ ⟨?_, hS⟩
      unfold Ent.boxOk
      rw [h1, h2, decide_eq_true (show 1 ≤ e.r by omega)]
      congr 2
      simp only [Bool.true_and]
      by_cases h4 : e.r ≤ 17179869184
      · rw [decide_eq_true h4, decide_eq_false (by omega)]; rfl
      · rw [decide_eq_false h4, decide_eq_true (by omega)]; rfl
  · intro J hJ
    repeat' (first | (refine dr_i ?_) | (refine asI_i rfl ?_) | (refine asB_i rfl ?_) | (refine asN_i rfl ?_) | (refine asP_i rfl ?_) | (refine asS_i rfl ?_) | (refine asY_i rfl ?_) | (refine asM_i rfl ?_) | (refine asA_i rfl rfl ?_) | (refine asT_i rfl rfl ?_) | (refine lv_i ?_) | (refine hS.nw ?_; clear hS; intro _ _ hS) | (refine hS.dw ?_; clear hS; intro _ hS _) | (refine hS.ld0 0 rfl rfl ?_) | (refine hS.ld 0 rfl rfl ?_) | (refine hS.ld0 1 rfl rfl ?_) | (refine hS.ld 1 rfl rfl ?_) | (refine hS.ld0 2 rfl rfl ?_) | (refine hS.ld 2 rfl rfl ?_) | (refine hS.ld0 3 rfl rfl ?_) | (refine hS.ld 3 rfl rfl ?_) | (refine hS.ld0 4 rfl rfl ?_) | (refine hS.ld 4 rfl rfl ?_) | (refine hS.ld0 5 rfl rfl ?_) | (refine hS.ld 5 rfl rfl ?_) | (refine hS.ldd 0 rfl rfl ?_) | (refine hS.ldd 1 rfl rfl ?_) | (refine hS.ldd 2 rfl rfl ?_) | (refine hS.ldd 3 rfl rfl ?_) | (refine hS.ldd 4 rfl rfl ?_) | (refine hS.ldd 5 rfl rfl ?_) | (refine hS.hd0 0 rfl rfl ?_) | (refine hS.hd 0 rfl rfl ?_) | (refine hS.hd0 1 rfl rfl ?_) | (refine hS.hd 1 rfl rfl ?_) | (refine hS.hd0 2 rfl rfl ?_) | (refine hS.hd 2 rfl rfl ?_) | (refine hS.hd0 3 rfl rfl ?_) | (refine hS.hd 3 rfl rfl ?_) | (refine hS.hd0 4 rfl rfl ?_) | (refine hS.hd 4 rfl rfl ?_) | (refine hS.hd0 5 rfl rfl ?_) | (refine hS.hd 5 rfl rfl ?_) | (refine hS.hdd 0 rfl rfl ?_) | (refine hS.hdd 1 rfl rfl ?_) | (refine hS.hdd 2 rfl rfl ?_) | (refine hS.hdd 3 rfl rfl ?_) | (refine hS.hdd 4 rfl rfl ?_) | (refine hS.hdd 5 rfl rfl ?_) | (refine hS.st0 0 rfl rfl rfl ?_; clear hS; intro _ hS) | (refine hS.st 0 rfl rfl rfl ?_; clear hS; intro _ hS) | (refine hS.st0 1 rfl rfl rfl ?_; clear hS; intro _ hS) | (refine hS.st 1 rfl rfl rfl ?_; clear hS; intro _ hS) | (refine hS.st0 2 rfl rfl rfl ?_; clear hS; intro _ hS) | (refine hS.st 2 rfl rfl rfl ?_; clear hS; intro _ hS) | (refine hS.st0 3 rfl rfl rfl ?_; clear hS; intro _ hS) | (refine hS.st 3 rfl rfl rfl ?_; clear hS; intro _ hS) | (refine hS.st0 4 rfl rfl rfl ?_; clear hS; intro _ hS) | (refine hS.st 4 rfl rfl rfl ?_; clear hS; intro _ hS) | (refine hS.st0 5 rfl rfl rfl ?_; clear hS; intro _ hS) | (refine hS.st 5 rfl rfl rfl ?_; clear hS; intro _ hS) | (refine hS.std 0 rfl rfl rfl ?_; clear hS; intro _ hS) | (refine hS.std 1 rfl rfl rfl ?_; clear hS; intro _ hS) | (refine hS.std 2 rfl rfl rfl ?_; clear hS; intro _ hS) | (refine hS.std 3 rfl rfl rfl ?_; clear hS; intro _ hS) | (refine hS.std 4 rfl rfl rfl ?_; clear hS; intro _ hS) | (refine hS.std 5 rfl rfl rfl ?_; clear hS; intro _ hS) | (refine bnd_mk (by decide) (by decide) ?_) | (refine so_i rfl ?_) | (refine And.intro ?_ ?_))
    all_goals first | exact hJ _ _ ⟨_, _, rfl, hS⟩ | exact hJ _ _ ⟨_, _, rfl, hS.swap⟩
end Go.Proofs.YtfnepdppkmjboaaDoor

/- WoD: a world as a thing in memory: its places are read and written; New and at. Conditions: those of each theorem, on its arguments. -/
namespace Go.Proofs.YtfnepdppkmjboaaDoor
open Go Go.Sx Go.Fp
attribute [local irreducible] jn lv ld st nw asI asB asP asS asY asM asF asA asT lp rn ru rq cl dw dr bnd bn2 nz nn hd hr so eqW
attribute [local irreducible] callOk

structure Spot where
  gen : Int
  there : Bool
  e : Ent

def Ent.zero : Ent := ⟨0, 0, 0, 0, 0, 0, 0, 0⟩
def Spot.zero : Spot := ⟨0, false, Ent.zero⟩
def Spot.cells (s : Spot) : List Value := [.int .i64 s.gen, .bool s.there] ++ s.e.cells
theorem Spot.cells_length (s : Spot) : s.cells.length = 10 := rfl
def wc (g : Nat) (S : List Spot) : List Value := .pointer (some ⟨g, 0, none⟩) :: S.flatMap Spot.cells

theorem wc_length (g : Nat) (S : List Spot) : (wc g S).length = 1 + S.length * 10 := by
  unfold wc
  rw [List.length_cons, fl_lenN (f := Spot.cells) Spot.cells_length]
  omega

theorem wc_get {g : Nat} {S : List Spot} {i : Nat} {s : Spot} (hi : S[i]? = some s) {k : Nat} (hk : k < 10) : (wc g S)[1 + (i * 10 + k)]? = s.cells[k]? := by
  unfold wc
  rw [Nat.add_comm 1, List.getElem?_cons_succ]
  exact fl_getN (f := Spot.cells) Spot.cells_length hi k hk

theorem fl_setN {α : Type} {f : α → List Value} {n : Nat} (hf : ∀ x, (f x).length = n) : ∀ {l : List α} {i : Nat} {x y : α} {k : Nat} {v : Value}, l[i]? = some x → k < n → (f x).set k v = f y → (l.flatMap f).set (i * n + k) v = (l.set i y).flatMap f
  | [], _, _, _, _, _, h, _, _ => by simp at h
  | z :: l, 0, x, y, k, v, h, hk, hs => by
    simp only [List.getElem?_cons_zero, Option.some.injEq] at h
    subst h
    rw [List.flatMap_cons, Nat.zero_mul, Nat.zero_add, List.set_append_left _ _ (by rw [hf]; exact hk), hs]
    simp
  | z :: l, i + 1, x, y, k, v, h, hk, hs => by
    rw [List.flatMap_cons, List.set_append_right _ _ (by rw [hf, Nat.add_mul]; omega), hf]
    have e : (i + 1) * n + k - n = i * n + k := by rw [Nat.add_mul]; omega
    rw [e, fl_setN hf (by simpa using h) hk hs]
    simp

theorem wc_set {g : Nat} {S : List Spot} {i : Nat} {s s' : Spot} (hi : S[i]? = some s) {k : Nat} (hk : k < 10) {v : Value} (hs : s.cells.set k v = s'.cells) : (wc g S).set (1 + (i * 10 + k)) v = wc g (S.set i s') := by
  unfold wc
  rw [Nat.add_comm 1, List.set_cons_succ, fl_setN (f := Spot.cells) Spot.cells_length hi hk hs]

theorem asI8 {e : Ent} {P : (Nat → Value) → Prop} (h : P fun i => e.cells.getD i undef) : asA 8 e.v P := asA_i (l := e.cells) rfl rfl h

/-- an entity that is read, cell by cell -/
theorem ld8 {w : World} {A : Addr} {e : Ent} (h0 : w.cell? A = some (.int .i64 e.h)) (h1 : w.cell? (Addr.add A 1) = some (.int .i64 e.x)) (h2 : w.cell? (Addr.add A 2) = some (.int .i64 e.y)) (h3 : w.cell? (Addr.add A 3) = some (.int .i64 e.r))
    (h4 : w.cell? (Addr.add A 4) = some (.int .i64 e.vx)) (h5 : w.cell? (Addr.add A 5) = some (.int .i64 e.vy)) (h6 : w.cell? (Addr.add A 6) = some (.int .i64 e.o)) (h7 : w.cell? (Addr.add A 7) = some (.int .i64 e.t))
    {K : Int → Int → Int → Int → Int → Int → Int → Int → Prop} (hK : K e.h e.x e.y e.r e.vx e.vy e.o e.t) :
    ld w A fun v1 => asI .i64 v1 fun x0 => ld w (Addr.add A 1) fun v2 => asI .i64 v2 fun x1 => ld w (Addr.add A 2) fun v3 => asI .i64 v3 fun x2 => ld w (Addr.add A 3) fun v4 => asI .i64 v4 fun x3 =>
      ld w (Addr.add A 4) fun v5 => asI .i64 v5 fun x4 => ld w (Addr.add A 5) fun v6 => asI .i64 v6 fun x5 => ld w (Addr.add A 6) fun v7 => asI .i64 v7 fun x6 => ld w (Addr.add A 7) fun v8 => asI .i64 v8 fun x7 => K x0 x1 x2 x3 x4 x5 x6 x7 :=
  ld_mk h0 (asI_i rfl (ld_mk h1 (asI_i rfl (ld_mk h2 (asI_i rfl (ld_mk h3 (asI_i rfl (ld_mk h4 (asI_i rfl (ld_mk h5 (asI_i rfl (ld_mk h6 (asI_i rfl (ld_mk h7 (asI_i rfl hK)))))))))))))))

theorem ld8b {w : World} {b o : Nat} {cs : Array Value} {t : TypeId} {fr : Nat × Nat} {e : Ent} (hb : w.heap[b]? = some (.cells cs t fr)) (hc : ∀ k, k < 8 → cs[o + k]? = e.cells[k]?)
    {K : Int → Int → Int → Int → Int → Int → Int → Int → Prop} (hK : K e.h e.x e.y e.r e.vx e.vy e.o e.t) {A : Addr} (hA : A = ⟨b, o, none⟩) :
    ld w A fun v1 => asI .i64 v1 fun x0 => ld w (Addr.add A 1) fun v2 => asI .i64 v2 fun x1 => ld w (Addr.add A 2) fun v3 => asI .i64 v3 fun x2 => ld w (Addr.add A 3) fun v4 => asI .i64 v4 fun x3 =>
      ld w (Addr.add A 4) fun v5 => asI .i64 v5 fun x4 => ld w (Addr.add A 5) fun v6 => asI .i64 v6 fun x5 => ld w (Addr.add A 6) fun v7 => asI .i64 v7 fun x6 => ld w (Addr.add A 7) fun v8 => asI .i64 v8 fun x7 => K x0 x1 x2 x3 x4 x5 x6 x7 := by
  subst hA
  have key : ∀ k, k < 8 → w.cell? (Addr.add ⟨b, o, none⟩ k) = e.cells[k]? := fun k hk => by rw [add_mk, blk_cell hb, hc k hk]
  exact ld8 (by have := key 0 (by decide); rwa [Sx.add_zero'] at this) (key 1 (by decide)) (key 2 (by decide)) (key 3 (by decide)) (key 4 (by decide)) (key 5 (by decide)) (key 6 (by decide)) (key 7 (by decide)) hK

/-! ### the world -/
def wside : Int := 34359738368
/-- where the entity of a handle stands -/
def atI (S : List Spot) (h : Int) : Option Nat :=
  if h < 64 then none else match S[h.toNat % 64]? with
    | some s => if s.there = true ∧ s.e.h = h then some (h.toNat % 64) else none
    | none => none

end Go.Proofs.YtfnepdppkmjboaaDoor

/- WoE: what a world's calls Spawn, Kill, Get, Set, List do, as contracts over lists of places. Conditions: those of each theorem, on its arguments. -/
namespace Go.Proofs.YtfnepdppkmjboaaDoor
open Go Go.Sx Go.Fp
attribute [local irreducible] jn lv ld st nw asI asB asP asS asY asM asF asA asT lp rn ru rq cl dw dr bnd bn2 nz nn hd hr so eqW
attribute [local irreducible] callOk

def free (s : Spot) : Bool := !s.there && !(s.gen == 1099511627776)
/-- the first place that is free -/
def IsFree (S : List Spot) (i : Nat) (s : Spot) : Prop := S[i]? = some s ∧ free s = true ∧ ∀ j s', j < i → S[j]? = some s' → free s' = false
def spn (s : Spot) (i : Nat) (e : Ent) : Spot := ⟨s.gen + 1, true, { e with h := (s.gen + 1) * 64 + (i : Int) }⟩

theorem putL_len {l : List (Int × Int)} {id : Int} : ∀ {D : List ((Int × Int) × List Int)} (x : Int × Int), ((aget (putL D l id) x).getD []).length ≤ ((aget D x).getD []).length + l.length := by
  induction l with
  | nil => intro D x; exact Nat.le_refl _
  | cons c l ih =>
    intro D x
    have h1 := ih (D := addTo D c id) x
    have h2 := addTo_len (D := D) (c := c) (id := id) x
    have e : putL D (c :: l) id = putL (addTo D c id) l id := rfl
    rw [e, List.length_cons]
    omega

def wF (F : Nat → Prop) (r : Nat) : Nat → Prop := fun k => F k ∨ k = r

/-- an entity that is written to a block of one's own -/
theorem _root_.Go.Sx.St.st8 {w0 w : World} {L : List (Nat × List Value × TypeId)} (h : St w0 w L) (i : Nat) {r : Nat} {cs : List Value} {t : TypeId} (hL : L[i]? = some (r, cs, t)) (hc : cs.length = 8) (e : Ent) {K : World → Prop}
    (hK : ∀ w', St w0 w' (L.set i (r, e.cells, t)) → K w') :
    Sx.st w ⟨r, 0, none⟩ (.int .i64 e.h) fun w1 => Sx.st w1 (Addr.add ⟨r, 0, none⟩ 1) (.int .i64 e.x) fun w2 => Sx.st w2 (Addr.add ⟨r, 0, none⟩ 2) (.int .i64 e.y) fun w3 => Sx.st w3 (Addr.add ⟨r, 0, none⟩ 3) (.int .i64 e.r) fun w4 =>
      Sx.st w4 (Addr.add ⟨r, 0, none⟩ 4) (.int .i64 e.vx) fun w5 => Sx.st w5 (Addr.add ⟨r, 0, none⟩ 5) (.int .i64 e.vy) fun w6 => Sx.st w6 (Addr.add ⟨r, 0, none⟩ 6) (.int .i64 e.o) fun w7 => Sx.st w7 (Addr.add ⟨r, 0, none⟩ 7) (.int .i64 e.t) fun w8 => K w8 := by
  match cs, hc with
  | [a0, a1, a2, a3, a4, a5, a6, a7], _ =>
    have hil := (List.getElem?_eq_some_iff.1 hL).1
    have g1 : ∀ q : Nat × List Value × TypeId, (L.set i q)[i]? = some q := fun q => List.getElem?_set_self hil
    refine h.st0 i hL rfl rfl fun w1 h1 => ?_
    refine h1.st i (g1 _) rfl rfl fun w2 h2 => ?_
    rw [List.set_set] at h2
    refine h2.st i (g1 _) rfl rfl fun w3 h3 => ?_
    rw [List.set_set] at h3
    refine h3.st i (g1 _) rfl rfl fun w4 h4 => ?_
    rw [List.set_set] at h4
    refine h4.st i (g1 _) rfl rfl fun w5 h5 => ?_
    rw [List.set_set] at h5
    refine h5.st i (g1 _) rfl rfl fun w6 h6 => ?_
    rw [List.set_set] at h6
    refine h6.st i (g1 _) rfl rfl fun w7 h7 => ?_
    rw [List.set_set] at h7
    refine h7.st i (g1 _) rfl rfl fun w8 h8 => ?_
    rw [List.set_set] at h8
    exact hK w8 h8

def getE (S : List Spot) (h : Int) : Ent := match atI S h with
  | some i => match S[i]? with | some s => s.e | none => Ent.zero
  | none => Ent.zero
def getC (S : List Spot) (h : Int) : Int := if (atI S h).isSome = true then 0 else 190

end Go.Proofs.YtfnepdppkmjboaaDoor

/- WoG: what a world's calls Set and List do, as contracts over lists of places. Conditions: those of each theorem, on its arguments. -/
namespace Go.Proofs.YtfnepdppkmjboaaDoor
open Go Go.Sx Go.Fp
attribute [local irreducible] jn lv ld st nw asI asB asP asS asY asM asF asA asT lp rn ru rq cl dw dr bnd bn2 nz nn hd hr so eqW
attribute [local irreducible] callOk

def setE (S : List Spot) (h : Int) (e : Ent) : Int := if (atI S h).isSome = true then e.rightE else 190

/-! ### List -/
def listS (S : List Spot) : List Ent := (S.filter fun s => s.there).map fun s => s.e

theorem hold_of {P : Program} {w : World} {a : Addr} : ∀ (vs : List Value) (i : Nat), (∀ j v, vs[j]? = some v → w.cell? (a.add (i + j)) = some v) → Hold P w (factsOf a i vs)
  | [], _, _ => fun x hx => by simp [factsOf] at hx
  | v :: vs, i, h => by
    intro x hx
    simp only [factsOf, List.mem_cons] at hx
    rcases hx with rfl | hx
    · exact h 0 v rfl
    · exact hold_of vs (i + 1) (fun j u hj => by have := h (j + 1) u (by simpa using hj); rwa [show i + (j + 1) = i + 1 + j by omega] at this) x hx

theorem extract_spot {S : List Spot} {i : Nat} {s : Spot} (hi : S[i]? = some s) : ((S.flatMap Spot.cells).toArray.extract (i * 10) (i * 10 + 10)) = s.cells.toArray := by
  apply Array.ext_getElem?
  intro j
  have hl := fl_lenN (f := Spot.cells) Spot.cells_length S
  have hil := (List.getElem?_eq_some_iff.1 hi).1
  by_cases hj : j < 10
  · have := fl_getN (f := Spot.cells) Spot.cells_length hi j hj
    rw [Array.getElem?_extract]
    simp only [List.size_toArray, hl]
    rw [if_pos (by omega)]
    simpa using this
  · rw [Array.getElem?_extract]
    simp only [List.size_toArray, hl]
    rw [if_neg (by omega)]
    have : s.cells.length ≤ j := by rw [Spot.cells_length]; omega
    simp [this]

set_option maxRecDepth 100000 in
theorem sE : SlN Tryd.prog 30 59 8 64 := ⟨rfl, ⟨_, _, rfl, rfl, rfl, rfl, rfl⟩, by decide⟩
theorem Ent.cells_length (e : Ent) : e.cells.length = 8 := rfl
theorem Ent.one (e : Ent) : ∀ u ∈ e.cells, Sx.one u = true := by
  intro u hu
  simp only [Ent.cells, List.mem_cons, List.not_mem_nil, or_false] at hu
  rcases hu with rfl | rfl | rfl | rfl | rfl | rfl | rfl | rfl <;> rfl

theorem listS_take (S : List Spot) (i : Nat) {s : Spot} (hs : S[i]? = some s) : listS (S.take (i + 1)) = listS (S.take i) ++ (if s.there = true then [s.e] else []) := by
  unfold listS
  rw [List.take_add_one, hs, List.filter_append, List.map_append]
  congr 1
  simp only [Option.toList_some, List.filter_cons, List.filter_nil]
  split <;> simp

theorem listS_len (S : List Spot) : (listS S).length ≤ S.length := by
  unfold listS
  rw [List.length_map]
  exact List.length_filter_le _ _

end Go.Proofs.YtfnepdppkmjboaaDoor

/- WoH: a world beside blocks of one's own: its calls again, told so; the document's examples of worlds come out (awake). Conditions: those of each theorem, on its arguments. -/
namespace Go.Proofs.YtfnepdppkmjboaaDoor
open Go Go.Sx Go.Fp
attribute [local irreducible] jn lv ld st nw asI asB asP asS asY asM asF asA asT lp rn ru rq cl dw dr bnd bn2 nz nn hd hr so eqW
attribute [local irreducible] callOk

theorem _root_.Go.Sx.St.toM {w0 w w' : World} {L : List (Nat × List Value × TypeId)} (h : St w0 w L) {M : Nat → Prop} (hx : Ext M w w') (hM : ∀ k, M k → w0.heap.size ≤ k) (hL : ∀ b ∈ L, ¬ M b.1) : St w0 w' L :=
  ⟨h.ext.then hx fun k hk hm => by have := hM k hm; omega, fun b hb => ⟨hx.blk (h.kn b hb).1 (hL b hb), (h.kn b hb).2⟩, h.nd⟩

section
variable {W w : World} {L : List (Nat × List Value × TypeId)} {F : Nat → Prop} {r g : Nat} {S : List Spot} {B : List (Int × Bx)} {D : List ((Int × Int) × List Int)} {N : Nat}

end

theorem IsFree.unique {S : List Spot} {i j : Nat} {s t : Spot} (h : IsFree S i s) (h' : IsFree S j t) : i = j ∧ s = t := by
  have key : ∀ {i j : Nat} {s t : Spot}, IsFree S i s → IsFree S j t → ¬ i < j := fun h h' hlt => by
    have := h'.2.2 _ _ hlt h.1
    rw [h.2.1] at this
    cases this
  have h1 := key h h'
  have h2 := key h' h
  have e : i = j := by omega
  subst e
  have := h.1.symm.trans h'.1
  exact ⟨rfl, by simpa using this⟩

def one1 : Ent := ⟨0, 0, 0, 1, 0, 0, 0, 0⟩
def aS0 : List Spot := List.replicate 64 Spot.zero
def aS1 : List Spot := aS0.set 0 (spn Spot.zero 0 one1)
def aS2 : List Spot := aS1.set 1 (spn Spot.zero 1 one1)
def aS3 : List Spot := aS2.set 0 ⟨1, false, { one1 with h := 64 }⟩
def aS4 : List Spot := aS3.set 0 (spn ⟨1, false, { one1 with h := 64 }⟩ 0 one1)

end Go.Proofs.YtfnepdppkmjboaaDoor

/- Op: arguments laid open: what a reading of a slice of numbers, or of bools, says of its places and its length. No condition. -/
namespace Go.Sx
open Go Go.ChangeShapes Go.WideShapes Go.ChangeAt Go.RowKit

section
variable {H : Type} {enc : TypeId × Value → H} {P : Program} {W : World} {base : Nat} {t e : TypeId} {k : IntKind} {a : Option Addr} {len cap : Nat} {d : DataW H} {ps : List MemPlace} {ts : List TypeId} {ds : List (DataW H)} {j : Nat}

theorem reads_of {W : World} {x : Addr} {vs : List Value} (h : ∀ (i : Nat) (v : Value), vs[i]? = some v → W.cell? (x.add i) = some v) : Reads W (some x) vs := by
  cases vs with
  | nil => exact .inl rfl
  | cons u us =>
    have h0 := h 0 u rfl
    have hs : x.spot = none := by
      cases hsp : x.spot with
      | none => rfl
      | some s =>
        have : x.add 0 = x := by simp [Addr.add]
        rw [this] at h0
        unfold World.cell? at h0
        split at h0
        · simp [hsp] at h0
        · cases h0
    obtain ⟨b, o, sp⟩ := x
    simp only at hs
    subst hs
    exact .inr ⟨b, o, rfl, fun i v hv => by have := h i v hv; rwa [add_mk] at this⟩

theorem op_ints (hsz : (DataW.weightsEach P ts ds).all (· ≤ reachBytes) = true) (ht : ts[j]? = some t) (hd : ds[j]? = some d) (hu : P.underlying t = some (.slice e)) (he : P.underlying e = some (.int k)) (hc : P.cellsOf e = 1) {B : Nat} (hB : P.bytesOf e = B)
    (h : DataW.Trod enc P W base (fun _ => true) true t (.slice a len cap) d ps) :
    ∃ zs : List Int, Reads W a (iv k zs) ∧ zs.length = len ∧ (∀ n ∈ zs, (Lit.int k n).wf = true) ∧ len * B ≤ 140737488351232 := by
  obtain ⟨fuel, hf⟩ := h
  rcases open_ints hu he hc hf with ⟨hcs, _⟩ | ⟨x, l, c, zs, hcs, _, hl, _, hz, hx, hcell, hwf⟩
  · simp [Value.cells] at hcs
    obtain ⟨rfl, rfl, rfl⟩ := hcs
    exact ⟨[], .inl rfl, rfl, by simp, by simp⟩
  · simp [Value.cells] at hcs
    obtain ⟨rfl, rfl, rfl⟩ := hcs
    obtain ⟨hx, _⟩ := Prod.mk.inj hx
    subst hx
    simp only [if_true] at hz
    have hl2 : len ≤ zs.length := by omega
    refine ⟨zs.take len, reads_of fun i v hv => ?_, by simp; omega, fun n hn => hwf n (List.mem_of_mem_take hn), ?_⟩
    · have hi : i < len := by
        have := (List.getElem?_eq_some_iff.1 hv).1
        simp [iv] at this
        omega
      rw [hcell i (by omega)]
      rw [iv_get (by simp; omega)] at hv
      rw [← hv]
      congr 2
      simp [hi]
    · have z := sized_slice hsz ht hd hu
      rw [hB] at z
      have h1 : (lits (H := H) k (zs.take len)).length + (lits (H := H) k (zs.drop len)).length = zs.length := by
        simp [lits]
        omega
      rw [h1] at z
      exact Nat.le_trans (Nat.mul_le_mul_right _ hl2) z

theorem op_bools (hsz : (DataW.weightsEach P ts ds).all (· ≤ reachBytes) = true) (ht : ts[j]? = some t) (hd : ds[j]? = some d) (hu : P.underlying t = some (.slice e)) (he : P.underlying e = some .bool) (hc : P.cellsOf e = 1) {B : Nat} (hB : P.bytesOf e = B)
    (h : DataW.Trod enc P W base (fun _ => true) true t (.slice a len cap) d ps) :
    ∃ zs : List Bool, Reads W a (tv zs) ∧ zs.length = len ∧ len * B ≤ 140737488351232 := by
  obtain ⟨fuel, hf⟩ := h
  rcases Deep.open_bools hu he hc hf with ⟨hcs, _⟩ | ⟨x, l, c, Bo, hcs, _, hl, _, hx, hcell⟩
  · simp [Value.cells] at hcs
    obtain ⟨rfl, rfl, rfl⟩ := hcs
    exact ⟨[], .inl rfl, rfl, by simp⟩
  · simp [Value.cells] at hcs
    obtain ⟨rfl, rfl, rfl⟩ := hcs
    obtain ⟨hx, _⟩ := Prod.mk.inj hx
    refine ⟨(List.range len).map Bo, reads_of fun i v hv => ?_, by simp, ?_⟩
    · have hi : i < len := by
        have := (List.getElem?_eq_some_iff.1 hv).1
        simp [tv] at this
        omega
      rw [hcell i (by omega)]
      simp [tv, hi] at hv
      rw [← hv]
    · have hx' := hx
      unfold Deep.boolRow at hx'
      subst hx'
      have z := sized_slice hsz ht hd hu
      rw [hB] at z
      refine Nat.le_trans (Nat.mul_le_mul_right _ ?_) z
      simp

/-- how many places a reading of a slice holds -/
def dlen : DataW H → Nat
  | .slice es rs => es.length + rs.length
  | _ => 0

theorem op_dlen (hu : P.underlying t = some (.slice e)) (h : DataW.Trod enc P W base (fun _ => true) true t (.slice a len cap) d ps) : len ≤ dlen d := by
  obtain ⟨fuel, hf⟩ := h
  rcases DataW.trod_slice hu hf with ⟨hcs, _⟩ | ⟨x, l, c, elems, rest, n, _, hcs, hx, _, _, _, hl, _⟩
  · simp [Value.cells] at hcs
    obtain ⟨rfl, rfl, rfl⟩ := hcs
    exact Nat.zero_le _
  · simp [Value.cells] at hcs
    obtain ⟨rfl, rfl, rfl⟩ := hcs
    obtain ⟨hx, _⟩ := Prod.mk.inj hx
    subst hx
    simp [dlen]
    omega

/-- numbers of one byte as natural numbers -/
theorem bytes_of {zs : List Int} (h : ∀ n ∈ zs, (Lit.int .u8 n).wf = true) : ∃ bs : List Nat, iv .u8 zs = bv bs ∧ bs.length = zs.length ∧ ∀ b ∈ bs, b < 256 := by
  refine ⟨zs.map Int.toNat, ?_, by simp, ?_⟩
  · simp only [iv, bv, List.map_map]
    apply List.map_congr_left
    intro n hn
    have := h n hn
    simp only [Lit.wf, Bool.and_eq_true, IntKind.min, IntKind.max, IntKind.bits, IntKind.signed] at this
    simp at this ⊢
    omega
  · intro b hb
    simp only [List.mem_map] at hb
    obtain ⟨n, hn, rfl⟩ := hb
    have := h n hn
    simp only [Lit.wf, Bool.and_eq_true, IntKind.min, IntKind.max, IntKind.bits, IntKind.signed] at this
    simp at this
    omega

theorem i64_of {n : Int} (h : (Lit.int .i64 n).wf = true) : -9223372036854775808 ≤ n ∧ n ≤ 9223372036854775807 := by
  simp only [Lit.wf, Bool.and_eq_true, IntKind.min, IntKind.max, IntKind.bits, IntKind.signed] at h
  simp at h
  omega
end

theorem calls_of_cl {P : Program} {f : FuncId} {args : Array Value} {w : World} (h : cl P f args w fun v w' => v = .bool true ∧ Ext no w w') :
    Calls P f args w fun e w' => e = .returned (.bool true) ∧ Below w.heap.size w w' :=
  Calls.mono h fun e w' ⟨v, he, hv, hx⟩ => ⟨by rw [he, hv], hx.below fun _ _ h => h⟩
end Go.Sx

/- OpS: arguments laid open whose types are made of numbers, bools and strings alone, structs in structs too: what a reading says of their cells; slices of them. No condition. -/
namespace Go.Sx
open Go Go.ChangeShapes Go.WideShapes Go.ChangeAt Go.RowKit

inductive Lf where
  | int (k : IntKind)
  | bool
  | str

def Fits : Lf → Value → Prop
  | .int k, v => ∃ n, v = .int k n ∧ (Lit.int k n).wf = true
  | .bool, v => ∃ b, v = .bool b
  | .str, v => ∃ s, v = .string s ∧ s.size ≤ maxLen

def FitsAll : List Lf → List Value → Prop
  | [], cs => cs = []
  | l :: ls, cs => ∃ v r, cs = v :: r ∧ Fits l v ∧ FitsAll ls r

theorem FitsAll.length : ∀ {ls : List Lf} {cs : List Value}, FitsAll ls cs → cs.length = ls.length
  | [], _, h => by rw [show _ = [] from h]; rfl
  | _ :: _, _, ⟨_, _, e, _, h⟩ => by rw [e]; simp [h.length]

theorem FitsAll.append : ∀ {a b : List Lf} {x y : List Value}, FitsAll a x → FitsAll b y → FitsAll (a ++ b) (x ++ y)
  | [], _, _, _, h, k => by rw [show _ = [] from h]; exact k
  | _ :: _, _, _, _, ⟨v, r, e, f, h⟩, k => ⟨v, _, by rw [e]; rfl, f, h.append k⟩

def lfsF (P : Program) (g : TypeId → Option (List Lf)) : List Field → Nat → Option (List Lf)
  | [], _ => some []
  | f :: r, o =>
    match g f.type with
    | some l => if f.offset = o ∧ P.cellsOf f.type = l.length then (lfsF P g r (o + l.length)).map (l ++ ·) else none
    | none => none

def lfs (P : Program) : Nat → TypeId → Option (List Lf)
  | 0, _ => none
  | n + 1, t =>
    match P.underlying t with
    | some .bool => some [.bool]
    | some (.int k) => some [.int k]
    | some .string => some [.str]
    | some (.struct fs) =>
      match lfsF P (lfs P n) fs.toList 0 with
      | some l => if P.cellsOf t = l.length then some l else none
      | none => none
    | _ => none

section
variable {H : Type} {enc : TypeId × Value → H} {P : Program} {W : World} {base : Nat} {spare : Nat → Bool} {held : Bool}

theorem trod_fits : ∀ (n : Nat) {t : TypeId} {fuel : Nat} {cs : List Value} {x : DataW H × List MemPlace} {ls : List Lf}, lfs P n t = some ls → DataW.trod enc P W base spare held fuel t cs = some x → FitsAll ls cs
  | 0, _, _, _, _, _, h, _ => by simp [lfs] at h
  | n + 1, t, fuel, cs, x, ls, h, ht => by
    unfold lfs at h
    split at h
    · rename_i hu
      simp only [Option.some.injEq] at h
      subst h
      obtain ⟨b, h1, _⟩ := DataW.trod_bool hu ht
      exact ⟨_, [], h1, ⟨b, rfl⟩, rfl⟩
    · rename_i k hu
      simp only [Option.some.injEq] at h
      subst h
      obtain ⟨m, h1, _, hw⟩ := DataW.trod_int hu ht
      exact ⟨_, [], h1, ⟨m, rfl, hw⟩, rfl⟩
    · rename_i hu
      simp only [Option.some.injEq] at h
      subst h
      obtain ⟨s, h1, _, hw⟩ := DataW.trod_string hu ht
      exact ⟨_, [], h1, ⟨s, rfl, hw⟩, rfl⟩
    · rename_i fs hu
      split at h
      · rename_i l hl
        split at h
        · rename_i hc
          simp only [Option.some.injEq] at h
          subst h
          obtain ⟨xs, m, _, _, hlen, hxs, hf⟩ := DataW.trod_struct hu ht
          have each : ∀ f ∈ fs.toList, ∃ y, DataW.trod enc P W base spare held m f.type ((cs.drop f.offset).take (P.cellsOf f.type)) = some y := by
            intro f hfm
            obtain ⟨i, hi⟩ := List.getElem?_of_mem hfm
            have hi' : fs[i]? = some f := by simpa using hi
            have hlt : i < xs.length := by
              rw [hxs]
              exact (Array.getElem?_eq_some_iff.1 hi').1
            exact ⟨xs[i], (hf i f hi').trans (List.getElem?_eq_getElem hlt)⟩
          have go : ∀ (r : List Field) (o : Nat) (l : List Lf), lfsF P (lfs P n) r o = some l → (∀ f ∈ r, ∃ y, DataW.trod enc P W base spare held m f.type ((cs.drop f.offset).take (P.cellsOf f.type)) = some y) → FitsAll l ((cs.drop o).take l.length) := by
            intro r
            induction r with
            | nil =>
              intro o l hr _
              simp only [lfsF, Option.some.injEq] at hr
              subst hr
              show List.take 0 _ = []
              simp
            | cons f r ih =>
              intro o l hr he
              simp only [lfsF] at hr
              split at hr
              · rename_i lf hlf
                split at hr
                · rename_i hoff
                  obtain ⟨l', hl', rfl⟩ := Option.map_eq_some_iff.1 hr
                  obtain ⟨y, hy⟩ := he f (List.mem_cons_self ..)
                  have h1 := trod_fits n hlf hy
                  rw [hoff.1, hoff.2] at h1
                  have h2 := ih _ _ hl' fun g hg => he g (List.mem_cons_of_mem _ hg)
                  rw [List.length_append, List.take_add, List.drop_drop]
                  exact h1.append h2
                · cases hr
              · cases hr
          have := go _ _ _ hl each
          rw [List.drop_zero, List.take_of_length_le (by rw [hlen, hc]; exact Nat.le_refl _)] at this
          exact this
        · cases h
      · cases h
    · cases h

theorem op_agg {t : TypeId} {fs : Array Field} {r : Reach} {b0 : Nat} {v : Value} {d : DataW H} {ps : List MemPlace} (hs : P.underlying t = some (.struct fs)) (hv : Value.okWide P W r b0 t v)
    (h : DataW.Trod enc P W base spare held t v d ps) {n : Nat} {ls : List Lf} (hl : lfs P n t = some ls) : ∃ cs : List Value, v = .agg cs.toArray ∧ FitsAll ls cs := by
  obtain ⟨cs, rfl, _⟩ := okWide_struct hs hv
  obtain ⟨fuel, hf⟩ := h
  exact ⟨cs.toList, by simp, trod_fits n hl hf⟩

theorem flat_get {α : Type} {C : Nat} (hC : 0 < C) : ∀ {chunks : List (List α)} (k : Nat), (∀ c ∈ chunks, c.length = C) → chunks.flatten[k]? = (chunks[k / C]?).bind fun c => c[k % C]?
  | [], k, _ => by simp
  | c :: r, k, h => by
    have hc := h c (List.mem_cons_self ..)
    rw [List.flatten_cons]
    by_cases hk : k < C
    · rw [List.getElem?_append_left (by omega), Nat.div_eq_of_lt hk, Nat.mod_eq_of_lt hk]
      simp
    · rw [List.getElem?_append_right (by omega), hc, flat_get hC _ fun c' hc' => h c' (List.mem_cons_of_mem _ hc')]
      have e1 : k / C = (k - C) / C + 1 := by
        have : k = (k - C) + C := by omega
        rw [this, Nat.add_div_right _ hC]
        simp
      have e2 : k % C = (k - C) % C := by
        have : k = (k - C) + C := by omega
        rw [this, Nat.add_mod_right]
        simp
      rw [e1, e2]
      simp

theorem op_slice {t e : TypeId} {a : Option Addr} {len cap : Nat} {d : DataW H} {ps : List MemPlace} {ts : List TypeId} {ds : List (DataW H)} {j : Nat}
    (hsz : (DataW.weightsEach P ts ds).all (· ≤ reachBytes) = true) (ht : ts[j]? = some t) (hd : ds[j]? = some d) (hu : P.underlying t = some (.slice e)) {n : Nat} {ls : List Lf} (hl : lfs P n e = some ls) (hpos : 0 < ls.length) (hC : P.cellsOf e = ls.length) {B : Nat} (hB : P.bytesOf e = B)
    (h : DataW.Trod enc P W base (fun _ => true) true t (.slice a len cap) d ps) :
    ∃ chunks : List (List Value), Reads W a chunks.flatten ∧ chunks.length = len ∧ (∀ c ∈ chunks, FitsAll ls c) ∧ len * B ≤ 140737488351232 := by
  obtain ⟨fuel, hf⟩ := h
  rcases DataW.trod_slice hu hf with ⟨hcs, _⟩ | ⟨x, l, c, elems, rest, m, _, hcs, hx, _, _, _, hel, hat, _⟩
  · simp [Value.cells] at hcs
    obtain ⟨rfl, rfl, rfl⟩ := hcs
    exact ⟨[], .inl rfl, rfl, by simp, by simp⟩
  · simp [Value.cells] at hcs
    obtain ⟨rfl, rfl, rfl⟩ := hcs
    obtain ⟨hx, _⟩ := Prod.mk.inj hx
    have each : ∀ i, i < len → ∃ cs, W.cells? base (x.add (i * ls.length)) ls.length = some cs ∧ FitsAll ls cs := by
      intro i hi
      have := hat i hi
      rw [List.getElem?_eq_getElem (by omega), hC] at this
      cases hcc : W.cells? base (x.add (i * ls.length)) ls.length with
      | none => rw [hcc] at this; simp at this
      | some cs =>
        rw [hcc] at this
        exact ⟨cs, rfl, trod_fits n hl this⟩
    refine ⟨(List.range len).map fun i => (W.cells? base (x.add (i * ls.length)) ls.length).getD [], ?_, by simp, ?_, ?_⟩
    · refine reads_of fun k v hv => ?_
      have hall : ∀ c ∈ ((List.range len).map fun i => (W.cells? base (x.add (i * ls.length)) ls.length).getD []), c.length = ls.length := by
        intro c hc
        simp only [List.mem_map, List.mem_range] at hc
        obtain ⟨i, hi, rfl⟩ := hc
        obtain ⟨cs, h1, h2⟩ := each i hi
        rw [h1]
        exact h2.length
      rw [flat_get hpos k hall] at hv
      obtain ⟨c, hc, hv⟩ := Option.bind_eq_some_iff.1 hv
      have hi : k / ls.length < len := by
        have := (List.getElem?_eq_some_iff.1 hc).1
        simpa using this
      obtain ⟨cs, h1, h2⟩ := each _ hi
      simp [hi, h1] at hc
      subst hc
      obtain ⟨_, _, hcell⟩ := World.cells?_some h1
      have hm : k % ls.length < ls.length := Nat.mod_lt _ hpos
      have := hcell _ hm
      rw [Go.Deep.add_add] at this
      have ek : k / ls.length * ls.length + k % ls.length = k := by
        rw [Nat.mul_comm]
        exact Nat.div_add_mod k ls.length
      rw [ek] at this
      rw [this, hv]
    · intro c hc
      simp only [List.mem_map, List.mem_range] at hc
      obtain ⟨i, hi, rfl⟩ := hc
      obtain ⟨cs, h1, h2⟩ := each i hi
      rw [h1]
      exact h2
    · have hd' := hd
      rw [hx] at hd'
      have z := sized_slice hsz ht hd' hu
      rw [hB] at z
      refine Nat.le_trans (Nat.mul_le_mul_right _ ?_) z
      simp
      omega
end
end Go.Sx

/- WoL1: arguments that are entities; the law WorldFull comes out true for every input. Conditions: those of the law's arguments as they are read. -/
namespace Go.Proofs.YtfnepdppkmjboaaDoor
open Go Go.Sx Go.Fp
attribute [local irreducible] jn lv ld st nw asI asB asP asS asY asM asF asA asT lp rn ru rq cl dw dr bnd bn2 nz nn hd hr so eqW
attribute [local irreducible] callOk

def i8 : List Lf := [.int .i64, .int .i64, .int .i64, .int .i64, .int .i64, .int .i64, .int .i64, .int .i64]
def Ent.I (e : Ent) : Prop := I64 e.h ∧ I64 e.x ∧ I64 e.y ∧ I64 e.r ∧ I64 e.vx ∧ I64 e.vy ∧ I64 e.o ∧ I64 e.t

theorem ent_of {z : List Value} (h : FitsAll [.int .i64, .int .i64, .int .i64, .int .i64, .int .i64, .int .i64, .int .i64, .int .i64] z) : ∃ e : Ent, z = e.cells ∧ e.I := by
  obtain ⟨_, _, rfl, ⟨x0, rfl, h0⟩, _, _, rfl, ⟨x1, rfl, h1⟩, _, _, rfl, ⟨x2, rfl, h2⟩, _, _, rfl, ⟨x3, rfl, h3⟩, _, _, rfl, ⟨x4, rfl, h4⟩, _, _, rfl, ⟨x5, rfl, h5⟩, _, _, rfl, ⟨x6, rfl, h6⟩, _, _, rfl, ⟨x7, rfl, h7⟩, rfl⟩ := h
  exact ⟨⟨x0, x1, x2, x3, x4, x5, x6, x7⟩, rfl, i64_of h0, i64_of h1, i64_of h2, i64_of h3, i64_of h4, i64_of h5, i64_of h6, i64_of h7⟩

theorem and63 (x : Int) : 0 ≤ Go.bits .and .i64 x 63 ∧ Go.bits .and .i64 x 63 ≤ 63 := by
  have h : ∀ a : Nat, a ≤ 63 → 0 ≤ IntKind.wrap .i64 (a : Int) ∧ IntKind.wrap .i64 (a : Int) ≤ 63 := fun a ha => by
    rw [wr64 (by omega) (by omega)]; omega
  simp only [Go.bits]
  refine h _ ?_
  rw [BitVec.toNat_and]
  refine Nat.le_trans Nat.and_le_right ?_
  decide

/-- a world in which the first places are taken by one and the same -/
def fullS (e : Ent) (i : Nat) : List Spot := (List.range i).map (fun j => spn Spot.zero j e) ++ List.replicate (64 - i) Spot.zero

theorem fullS_lt {e : Ent} {i j : Nat} (h : j < i) : (fullS e i)[j]? = some (spn Spot.zero j e) := by
  unfold fullS
  rw [List.getElem?_append_left (by simpa using h)]
  simp [h]
theorem fullS_ge {e : Ent} {i j : Nat} (h : i ≤ j) (hj : j < 64) : (fullS e i)[j]? = some Spot.zero := by
  unfold fullS
  rw [List.getElem?_append_right (by simpa using h)]
  have e1 : ((List.range i).map (fun j => spn Spot.zero j e)).length = i := by simp
  rw [e1, List.getElem?_replicate, if_pos (by omega)]
theorem fullS_len {e : Ent} {i : Nat} (h : i ≤ 64) : (fullS e i).length = 64 := by
  unfold fullS
  simp
  omega
theorem fullS_set {e : Ent} {i : Nat} (h : i < 64) : (fullS e i).set i (spn Spot.zero i e) = fullS e (i + 1) := by
  apply List.ext_getElem?
  intro j
  by_cases hj : j = i
  · subst hj
    rw [List.getElem?_set_self (by rw [fullS_len (by omega)]; exact h), fullS_lt (by omega)]
  · rw [List.getElem?_set_ne (fun e => hj e.symm)]
    rcases Nat.lt_or_gt_of_ne hj with hj' | hj'
    · rw [fullS_lt hj', fullS_lt (by omega)]
    · by_cases h64 : j < 64
      · rw [fullS_ge (by omega) h64, fullS_ge (by omega) h64]
      · rw [List.getElem?_eq_none (by rw [fullS_len (by omega)]; omega), List.getElem?_eq_none (by rw [fullS_len (by omega)]; omega)]
theorem fullS_free {e : Ent} {i : Nat} (h : i < 64) : IsFree (fullS e i) i Spot.zero :=
  ⟨fullS_ge (Nat.le_refl _) h, rfl, fun j s hj hs => by rw [fullS_lt hj] at hs; cases hs; rfl⟩

end Go.Proofs.YtfnepdppkmjboaaDoor

/- WoJ: entities that equal themselves, lists of entities that are read, the list of a world beside it. Conditions: those of each theorem, on its arguments. -/
namespace Go.Proofs.YtfnepdppkmjboaaDoor
open Go Go.Sx Go.Fp
attribute [local irreducible] jn lv ld st nw asI asB asP asS asY asM asF asA asT lp rn ru rq cl dw dr bnd bn2 nz nn hd hr so eqW
attribute [local irreducible] callOk

theorem _root_.Go.Sx.Reads.no {w w' : World} (hx : Ext no w w') {p : Option Addr} {vs : List Value} (h : Reads w p vs) : Reads w' p vs := h.ext hx fun _ _ h => h

theorem equal_self {t : TypeId} {x : Value} {m : Nat} (hk : Tryd.prog.keyTypeAt m t = true) (hm : m ≤ 10000) (hf : x.formed Tryd.prog t = true) {D : Nat} {l : List Lit} (hl : Tryd.prog.keyLits D t x.cells.toList = some l) (w : World) :
    (Op.equal t x x).run Tryd.prog w = .ok true w := by
  obtain ⟨r, hr, hiff⟩ := run_equalIn_deep (P := Tryd.prog) (10000 - m) m t hk w D D x x l l hf hf hl hl
  have e : 10000 - m + m = 10000 := by omega
  rw [e] at hr
  have : r = true := hiff.2 rfl
  subst this
  exact hr
theorem eqW_self {t : TypeId} {x : Value} {m : Nat} (hg : Tryd.prog.eqGuardType Tryd.prog.depth t = false) (hk : Tryd.prog.keyTypeAt m t = true) (hm : m ≤ 10000) (hf : x.formed Tryd.prog t = true) {D : Nat} {l : List Lit} (hl : Tryd.prog.keyLits D t x.cells.toList = some l)
    {K : Bool → Prop} (h : K true) : eqW Tryd.prog t x x K := eqW_mk hg (fun w => equal_self hk hm hf hl w) h

theorem wfI {n : Int} (h : I64 n) : (Lit.int .i64 n).wf = true := by
  obtain ⟨h1, h2⟩ := h
  simp only [Lit.wf, Bool.and_eq_true, decide_eq_true_eq, IntKind.min, IntKind.max, IntKind.bits, IntKind.signed]
  simp
  omega
theorem cE : Tryd.prog.cellsOf 59 = 8 := by kernel_rfl
theorem cB : Tryd.prog.cellsOf 57 = 3 := by kernel_rfl
theorem cV : Tryd.prog.cellsOf 55 = 2 := by kernel_rfl
theorem cI : Tryd.prog.cellsOf 3 = 1 := by kernel_rfl
theorem lits8 {e : Ent} (h : e.I) : Tryd.prog.keyLits 4 59 e.v.cells.toList = some [.int .i64 e.h, .int .i64 e.x, .int .i64 e.y, .int .i64 e.r, .int .i64 e.vx, .int .i64 e.vy, .int .i64 e.o, .int .i64 e.t] := by
  obtain ⟨h0, h1, h2, h3, h4, h5, h6, h7⟩ := h
  simp [Program.keyLits, Tryd.underlying59, Tryd.underlying57, Tryd.underlying55, Tryd.underlying3, cE, cB, cV, cI, Ent.v, Ent.cells, Value.cells, wfI h0, wfI h1, wfI h2, wfI h3, wfI h4, wfI h5, wfI h6, wfI h7]
  try rw [if_pos (by decide)]
  try rfl
set_option maxRecDepth 100000 in
theorem eqEnt {e : Ent} (h : e.I) {K : Bool → Prop} (hK : K true) : eqW Tryd.prog 59 e.v e.v K :=
  eqW_self (m := 4) (by kernel_rfl) (by kernel_rfl) (by decide) rfl (lits8 h) hK

theorem ents_of {ls : List Lf} (hl : ls = [.int .i64, .int .i64, .int .i64, .int .i64, .int .i64, .int .i64, .int .i64, .int .i64]) : ∀ {R : List (List Value)}, (∀ c ∈ R, FitsAll ls c) → ∃ es : List Ent, R.flatten = es.flatMap Ent.cells ∧ es.length = R.length ∧ ∀ e ∈ es, e.I
  | [], _ => ⟨[], rfl, rfl, by simp⟩
  | c :: R, h => by
    subst hl
    obtain ⟨e, rfl, he⟩ := ent_of (h c List.mem_cons_self)
    obtain ⟨es, h1, h2, h3⟩ := ents_of rfl (R := R) fun c hc => h c (List.mem_cons_of_mem _ hc)
    refine ⟨e :: es, by rw [List.flatten_cons, h1]; rfl, by simp [h2], fun x hx => ?_⟩
    rcases List.mem_cons.1 hx with rfl | hx
    · exact he
    · exact h3 x hx

theorem ld8c {w : World} {A : Addr} {e : Ent} (hc : ∀ k, k < 8 → w.cell? (Addr.add A k) = e.cells[k]?) {K : Int → Int → Int → Int → Int → Int → Int → Int → Prop} (hK : K e.h e.x e.y e.r e.vx e.vy e.o e.t) :
    ld w A fun v1 => asI .i64 v1 fun x0 => ld w (Addr.add A 1) fun v2 => asI .i64 v2 fun x1 => ld w (Addr.add A 2) fun v3 => asI .i64 v3 fun x2 => ld w (Addr.add A 3) fun v4 => asI .i64 v4 fun x3 =>
      ld w (Addr.add A 4) fun v5 => asI .i64 v5 fun x4 => ld w (Addr.add A 5) fun v6 => asI .i64 v6 fun x5 => ld w (Addr.add A 6) fun v7 => asI .i64 v7 fun x6 => ld w (Addr.add A 7) fun v8 => asI .i64 v8 fun x7 => K x0 x1 x2 x3 x4 x5 x6 x7 :=
  ld8 (by have := hc 0 (by decide); rwa [Sx.add_zero'] at this) (hc 1 (by decide)) (hc 2 (by decide)) (hc 3 (by decide)) (hc 4 (by decide)) (hc 5 (by decide)) (hc 6 (by decide)) (hc 7 (by decide)) hK

theorem hd8c {w : World} {A : Addr} {e : Ent} (hc : ∀ k, k < 8 → w.cell? (Addr.add A k) = e.cells[k]?) {X : Prop} (hX : X) :
    hd w A (.int .i64 e.h) (hd w (Addr.add A 1) (.int .i64 e.x) (hd w (Addr.add A 2) (.int .i64 e.y) (hd w (Addr.add A 3) (.int .i64 e.r) (hd w (Addr.add A 4) (.int .i64 e.vx) (hd w (Addr.add A 5) (.int .i64 e.vy) (hd w (Addr.add A 6) (.int .i64 e.o) (hd w (Addr.add A 7) (.int .i64 e.t) X))))))) :=
  hd_i (by have := hc 0 (by decide); rwa [Sx.add_zero'] at this) (hd_i (hc 1 (by decide)) (hd_i (hc 2 (by decide)) (hd_i (hc 3 (by decide)) (hd_i (hc 4 (by decide)) (hd_i (hc 5 (by decide)) (hd_i (hc 6 (by decide)) (hd_i (hc 7 (by decide)) hX)))))))

theorem rsame_k {w : World} {a b : Option Addr} {n m ca cb : Nat} {es : List Ent} (hI : ∀ e ∈ es, e.I) (ha : Reads w a (es.flatMap Ent.cells)) (hb : Reads w b (es.flatMap Ent.cells)) (hn : es.length = n) (hm : es.length = m) (hM : n ≤ 140737488351232) {K : Value → World → Prop}
    (hK : ∀ w', Ext no w w' → K (.bool true) w') : cl Tryd.prog 17 #[.slice a n ca, .slice b m cb] w K := by
  subst hm
  subst hn
  apply F17_calls
  unfold F17
  refine cond_f (by simp) (lv_i ?_)
  refine lp_mk (fun i : Nat => [.int .i64 (i : Int)]) (fun m i w' => m = es.length - i ∧ i ≤ es.length ∧ Ext no w w') es.length 0 rfl ⟨rfl, Nat.zero_le _, Ext.refl _ _⟩ ?_
  rintro _ i w1 ⟨rfl, hi, hx⟩ J hJ
  refine asI_i rfl (cond_split (fun hc => ?_) (fun _ => hK w1 hx))
  have hlt : i < es.length := by
    have := of_decide_eq_true hc
    omega
  have he : es[i]? = some es[i] := List.getElem?_eq_getElem hlt
  have hIe := hI _ (List.getElem_mem hlt)
  generalize es[i] = e at he hIe
  refine dw_mk ?_
  have hx' : Ext no w w1.drew := hx.trans (Ext.drew w1)
  have hl8 : ∀ a, (∀ k, k < 8 → w1.drew.cell? (Addr.add (Addr.add a (i * 8)) k) = e.cells[k]?) → ∀ k, k < 8 → w1.cell? (Addr.add (Addr.add a (i * 8)) k) = e.cells[k]? := fun a h k hk => h k hk
  refine Reads.atN (f := Ent.cells) Ent.cells_length (Reads.no hx' ha) rfl he (by decide) fun a' _ hca => ?_
  rw [Int.toNat_natCast]
  refine ld8c hca ?_
  refine Reads.atN (f := Ent.cells) Ent.cells_length (Reads.no hx' hb) rfl he (by decide) fun b' _ hcb => ?_
  refine ld8c hcb (eqEnt hIe (cond_f rfl (lv_i ?_)))
  have ei : IntKind.wrap .i64 ((i : Int) + 1) = ((i + 1 : Nat) : Int) := by rw [wr64 (by omega) (by omega)]; omega
  rw [ei]
  exact hJ (es.length - (i + 1)) (i + 1) _ (by omega) ⟨rfl, by omega, hx'⟩

section
variable {W w : World} {L : List (Nat × List Value × TypeId)} {F : Nat → Prop} {r g : Nat} {S : List Spot} {B : List (Int × Bx)} {D : List ((Int × Int) × List Int)} {N : Nat}

/-- the blocks of LL hold the list es at p -/
def Holds (LL : List (Nat × List Value × TypeId)) (p : Option Addr) (es : List Ent) : Prop := ∀ w : World, (∀ b ∈ LL, w.heap[b.1]? = some (.cells b.2.1.toArray b.2.2 (0, 0))) → Reads w p (es.flatMap Ent.cells)

end
end Go.Proofs.YtfnepdppkmjboaaDoor

/- SnF: the table of an entity's parts; a writer beside own blocks; what the parts of an entity write. Conditions: those of each theorem, on its arguments. -/
namespace Go.Proofs.YtfnepdppkmjboaaDoor
open Go Go.Sx Go.Fp
attribute [local irreducible] jn lv ld st nw asI asB asP asS asY asM asF asA asT lp rn ru rq cl dw dr bnd bn2 nz nn hd hr so eqW
attribute [local irreducible] callOk

def Ent.at (e : Ent) : Nat → Int
  | 1 => e.x
  | 2 => e.y
  | 3 => e.r
  | 4 => e.vx
  | 5 => e.vy
  | 6 => e.o
  | 7 => e.t
  | _ => e.h
theorem Ent.cells_at (e : Ent) {k : Nat} (hk : k < 8) : e.cells[k]? = some (.int .i64 (e.at k)) := by
  rcases k with _ | _ | _ | _ | _ | _ | _ | _ | k
  all_goals first | rfl | omega

/-- an entity's numbers, part by part: the cell, the bits, what is added -/
def parT : List (List (Nat × Nat × Int)) := [[(1, 44, 4398046511104)], [(2, 44, 4398046511104)], [(3, 35, 0)], [(4, 36, 17179869184), (5, 36, 17179869184)], [(6, 4, 0)]]
def numF : Nat → Nat
  | 1 => 74
  | 2 => 75
  | 3 => 76
  | 4 => 77
  | 5 => 78
  | _ => 79
def numC (x : Nat × Nat × Int) : List Value := [.func (.func (numF x.1)) #[] #[], .int .i64 (x.2.1 : Int), .int .i64 x.2.2]
theorem numC_length (x : Nat × Nat × Int) : (numC x).length = 3 := rfl

/-- the listed table stands -/
structure Pts (w : World) : Prop where
  sl : ∀ (k : Nat) (l : List (Nat × Nat × Int)), parT[k]? = some l → ∃ p c, w.cell? ⟨0, k, none⟩ = some (.slice p l.length c) ∧ Reads w p (l.flatMap numC)
theorem Pts.no {w w' : World} (h : Pts w) (hx : Ext no w w') : Pts w' := ⟨fun k l hl => by
  obtain ⟨p, c, h1, h2⟩ := h.sl k l hl
  exact ⟨p, c, hx.cell h1 (fun h => h), h2.ext hx fun _ _ h => h⟩⟩

/-- the five rows of the table, loaded -/
theorem Pts.load {w00 w : World} (h : Pts w00) (hx : Ext Sx.no w00 w) {K : Option Addr → Nat → Nat → Option Addr → Nat → Nat → Option Addr → Nat → Nat → Option Addr → Nat → Nat → Option Addr → Nat → Nat → Prop}
    (hK : ∀ p0 n0 c0 p1 n1 c1 p2 n2 c2 p3 n3 c3 p4 n4 c4, (∀ k : Nat, k < 5 → ∃ p c l', (#[.slice p0 n0 c0, .slice p1 n1 c1, .slice p2 n2 c2, .slice p3 n3 c3, .slice p4 n4 c4] : Array Value)[Int.toNat (k : Int) * 1]? = some (.slice p l'.length c) ∧ parT[k]? = some l' ∧ Reads w00 p (l'.flatMap numC)) →
      K p0 n0 c0 p1 n1 c1 p2 n2 c2 p3 n3 c3 p4 n4 c4) :
    ld w ⟨0, 0, none⟩ fun v0 => asS v0 fun p0 n0 c0 => ld w (Addr.add ⟨0, 0, none⟩ 1) fun v1 => asS v1 fun p1 n1 c1 => ld w (Addr.add ⟨0, 0, none⟩ 2) fun v2 => asS v2 fun p2 n2 c2 =>
      ld w (Addr.add ⟨0, 0, none⟩ 3) fun v3 => asS v3 fun p3 n3 c3 => ld w (Addr.add ⟨0, 0, none⟩ 4) fun v4 => asS v4 fun p4 n4 c4 => K p0 n0 c0 p1 n1 c1 p2 n2 c2 p3 n3 c3 p4 n4 c4 := by
  obtain ⟨p0, c0, h0, g0⟩ := h.sl 0 _ rfl
  obtain ⟨p1, c1, h1, g1⟩ := h.sl 1 _ rfl
  obtain ⟨p2, c2, h2, g2⟩ := h.sl 2 _ rfl
  obtain ⟨p3, c3, h3, g3⟩ := h.sl 3 _ rfl
  obtain ⟨p4, c4, h4, g4⟩ := h.sl 4 _ rfl
  replace h0 := hx.cell h0 (fun h => h)
  replace h1 := hx.cell h1 (fun h => h)
  replace h2 := hx.cell h2 (fun h => h)
  replace h3 := hx.cell h3 (fun h => h)
  replace h4 := hx.cell h4 (fun h => h)
  refine ld_mk h0 (asS_i rfl (ld_mk (by rw [add_mk]; exact h1) (asS_i rfl (ld_mk (by rw [add_mk]; exact h2) (asS_i rfl (ld_mk (by rw [add_mk]; exact h3) (asS_i rfl (ld_mk (by rw [add_mk]; exact h4) (asS_i rfl (hK _ _ _ _ _ _ _ _ _ _ _ _ _ _ _ fun k hk => ?_))))))))))
  match k, hk with
  | 0, _ => exact ⟨p0, c0, _, rfl, rfl, g0⟩
  | 1, _ => exact ⟨p1, c1, _, rfl, rfl, g1⟩
  | 2, _ => exact ⟨p2, c2, _, rfl, rfl, g2⟩
  | 3, _ => exact ⟨p3, c3, _, rfl, rfl, g3⟩
  | 4, _ => exact ⟨p4, c4, _, rfl, rfl, g4⟩

theorem numF_ok (o : Nat) : callOk Tryd.prog (numF o) = true := by
  unfold numF
  split <;> kernel_rfl
theorem numF_k {o : Nat} (h1 : 1 ≤ o) (h6 : o ≤ 6) {r : Nat} {w : World} {K : Value → World → Prop} (hK : K (.pointer (some ⟨r, o, none⟩)) w) :
    cl Tryd.prog (numF o) (#[] ++ #[.pointer (some ⟨r, 0, none⟩)] ++ #[]) w K := by
  have e : (#[] ++ #[Value.pointer (some ⟨r, 0, none⟩)] ++ #[] : Array Value) = #[.pointer (some ⟨r, 0, none⟩)] := by simp
  rw [e]
  match o, h1, h6 with
  | 1, _, _ => apply F74_calls; unfold F74; exact dr_i hK
  | 2, _, _ => apply F75_calls; unfold F75; exact dr_i hK
  | 3, _, _ => apply F76_calls; unfold F76; exact dr_i hK
  | 4, _, _ => apply F77_calls; unfold F77; exact dr_i hK
  | 5, _, _ => apply F78_calls; unfold F78; exact dr_i hK
  | 6, _, _ => apply F79_calls; unfold F79; exact dr_i hK

/-- a writer, as a thing in memory -/
def WJ (r : Nat) (l : List Bool) (B : Nat → Prop) (w : World) : Prop := ∃ p c bs, B = wm r p ∧ Wtr w 0 r p c bs l
theorem WJ.kp {r : Nat} {l : List Bool} : Kp (WJ r l) := by
  rintro B w w' hx ⟨p, c, bs, rfl, hW⟩
  exact ⟨p, c, bs, rfl, hW.keep hx (fun h => h (.inl rfl)) fun a ha h => h (.inr ⟨a, ha, rfl⟩)⟩

section
variable {w00 : World} {M : Nat → Prop} {wa w : World} {L : List (Nat × List Value × TypeId)} {r : Nat} {l : List Bool}
theorem wm_lt {p : Option Addr} {c : Nat} {bs : List Nat} (h : Wtr w 0 r p c bs l) : ∀ k, wm r p k → k < w.heap.size := by
  rintro k (rfl | ⟨a, ha, rfl⟩)
  · exact blk_lt h.blk
  · exact (h.row.at ha).2

theorem _root_.Go.Sx.Bn.put (h : Bn w00 M wa w L (WJ r l)) {v : Int} {n : Nat} (h0 : 0 ≤ v) (hv : v.toNat < 2 ^ n) (hn : n ≤ 63) (hl : l.length + n ≤ 1048576) {K : Value → World → Prop}
    (hK : ∀ w', Bn w00 M wa w' L (WJ r (l ++ numBits v.toNat n)) → K (.int .i64 0) w') : cl Tryd.prog 26 #[.pointer (some ⟨r, 0, none⟩), .int .i64 v, .int .i64 (n : Int)] w K := by
  obtain ⟨B, ⟨p, c, bs, rfl, hW⟩, hb, ha, hm, ho⟩ := h.ex
  have hE : bputE l v n = 0 := by
    have h1 : v.toNat >>> n = 0 := by rw [Nat.shiftRight_eq_div_pow]; exact Nat.div_eq_of_lt hv
    unfold bputE
    rw [Int.toNat_natCast, if_neg (by omega), if_neg (by omega)]
  refine put_k hW fun p' c' bs' w' hW' hx hmv => ?_
  have hL : bputL l v n = l ++ numBits v.toNat n := by unfold bputL; rw [if_pos hE, Int.toNat_natCast]
  rw [hL] at hW'
  rw [hE]
  refine hK w' (h.act hb ha hm ho WJ.kp ⟨p', c', bs', rfl, hW'⟩ hx (wm_lt hW') ?_)
  rintro k hk (rfl | ⟨a, ha', rfl⟩)
  · exact .inl rfl
  · rcases hmv with rfl | hmv
    · exact .inr ⟨a, ha', rfl⟩
    · have := hmv a ha'
      omega
end
end Go.Proofs.YtfnepdppkmjboaaDoor

/- SnG: what snap.write writes. Conditions: those of each theorem, on its arguments. -/
namespace Go.Proofs.YtfnepdppkmjboaaDoor
open Go Go.Sx Go.Fp
attribute [local irreducible] jn lv ld st nw asI asB asP asS asY asM asF asA asT lp rn ru rq cl dw dr bnd bn2 nz nn hd hr so eqW
attribute [local irreducible] callOk

def numB (e : Ent) (x : Nat × Nat × Int) : List Bool := numBits (e.at x.1 + x.2.2).toNat x.2.1
def partB (e : Ent) (m k : Nat) : List Bool := if m.testBit (5 - k) then (parT.getD k []).flatMap (numB e) else []
def upB (e : Ent) (m : Nat) : Nat → List Bool
  | 0 => []
  | k + 1 => upB e m k ++ partB e m k
def tagHi (t : Int) : Int := Int.fdiv (IntKind.wrap .u64 t) (2 ^ (32 : Nat))
def tagLo (t : Int) : Int := IntKind.wrap .u32 t
def tagB (t : Int) : List Bool := numBits (tagHi t).toNat 32 ++ numBits (tagLo t).toNat 32
def wB (e : Ent) (m : Nat) : List Bool := upB e m 5 ++ if m.testBit 0 then tagB e.t else []

/-- what an entity's numbers keep to -/
def Ent.fit (e : Ent) : Prop := ∀ l ∈ parT, ∀ x ∈ l, -9223372036854775808 ≤ e.at x.1 + x.2.2 ∧ 0 ≤ e.at x.1 + x.2.2 ∧ (e.at x.1 + x.2.2).toNat < 2 ^ x.2.1 ∧ x.2.1 ≤ 44 ∧ 1 ≤ x.1 ∧ x.1 ≤ 6

theorem parT_get {k : Nat} (hk : k < 5) : ∃ l, parT[k]? = some l ∧ parT.getD k [] = l ∧ l.length ≤ 2 ∧ l ∈ parT := by
  match k, hk with
  | 0, _ => exact ⟨_, rfl, rfl, by decide, by simp [parT]⟩
  | 1, _ => exact ⟨_, rfl, rfl, by decide, by simp [parT]⟩
  | 2, _ => exact ⟨_, rfl, rfl, by decide, by simp [parT]⟩
  | 3, _ => exact ⟨_, rfl, rfl, by decide, by simp [parT]⟩
  | 4, _ => exact ⟨_, rfl, rfl, by decide, by simp [parT]⟩

theorem right_fit {e : Ent} (h : e.rightE = 0) : e.fit := by
  unfold Ent.rightE at h
  have hb : e.boxOk = true := by
    by_cases hb : e.boxOk = true
    · exact hb
    · rw [if_neg hb] at h; cases h
  rw [if_pos hb] at h
  have ha : e.argOk = true := by
    by_cases ha : e.argOk = true
    · exact ha
    · rw [if_neg ha] at h; cases h
  simp only [Ent.boxOk, Ent.argOk, inn, Bool.and_eq_true, decide_eq_true_eq] at hb ha
  intro l hl x hx
  simp only [parT, List.mem_cons, List.not_mem_nil, or_false] at hl
  have p44 : (2 : Nat) ^ 44 = 17592186044416 := by decide
  have p35 : (2 : Nat) ^ 35 = 34359738368 := by decide
  have p36 : (2 : Nat) ^ 36 = 68719476736 := by decide
  have p4 : (2 : Nat) ^ 4 = 16 := by decide
  rcases hl with rfl | rfl | rfl | rfl | rfl <;> simp only [List.mem_cons, List.not_mem_nil, or_false] at hx
  · subst hx; simp only [Ent.at, p44]; omega
  · subst hx; simp only [Ent.at, p44]; omega
  · subst hx; simp only [Ent.at, p35]; omega
  · rcases hx with rfl | rfl <;> (simp only [Ent.at, p36]; omega)
  · subst hx; simp only [Ent.at, p4]; omega

theorem mbit {m k : Nat} (hm : m < 64) (hk : k < 5) :
    (Go.bits .and .i64 (Int.fdiv (m : Int) (2 ^ (min (Int.toNat (IntKind.wrap .i64 ((5 : Int) - (k : Int)))) 64))) (1 : Int) == (0 : Int)) = !m.testBit (5 - k) := by
  have h : ((List.range 64).all fun m => (List.range 5).all fun k => decide ((Go.bits .and .i64 (Int.fdiv (m : Int) (2 ^ (min (Int.toNat (IntKind.wrap .i64 ((5 : Int) - (k : Int)))) 64))) (1 : Int) == (0 : Int)) = !m.testBit (5 - k))) = true := by kernel_rfl
  rw [List.all_eq_true] at h
  have h1 := h m (List.mem_range.2 hm)
  rw [List.all_eq_true] at h1
  exact of_decide_eq_true (h1 k (List.mem_range.2 hk))
theorem mbit0 {m : Nat} (hm : m < 64) : (Go.bits .and .i64 (m : Int) (1 : Int) == (1 : Int)) = m.testBit 0 := by
  have h : ((List.range 64).all fun m => decide ((Go.bits .and .i64 (m : Int) (1 : Int) == (1 : Int)) = m.testBit 0)) = true := by kernel_rfl
  rw [List.all_eq_true] at h
  exact of_decide_eq_true (h m (List.mem_range.2 hm))

theorem numB_length {e : Ent} {x : Nat × Nat × Int} : (numB e x).length = x.2.1 := numBits_length _ _
theorem flat_len {e : Ent} {k : Nat} (hk : k < 5) : ((parT.getD k []).flatMap (numB e)).length ≤ 72 := by
  match k, hk with
  | 0, _ => simp [parT, numB_length]
  | 1, _ => simp [parT, numB_length]
  | 2, _ => simp [parT, numB_length]
  | 3, _ => simp [parT, numB_length]
  | 4, _ => simp [parT, numB_length]
theorem partB_len {e : Ent} {m k : Nat} (hk : k < 5) : (partB e m k).length ≤ 72 := by
  unfold partB
  split
  · exact flat_len hk
  · simp
theorem upB_len {e : Ent} {m : Nat} : ∀ {k : Nat}, k ≤ 5 → (upB e m k).length ≤ 72 * k
  | 0, _ => by simp [upB]
  | k + 1, hk => by
    have h1 := upB_len (e := e) (m := m) (k := k) (by omega)
    have h2 := partB_len (e := e) (m := m) (k := k) (by omega)
    simp only [upB, List.length_append]
    omega
theorem wB_len {e : Ent} {m : Nat} : (wB e m).length ≤ 424 := by
  have h := upB_len (e := e) (m := m) (Nat.le_refl 5)
  unfold wB
  rw [List.length_append]
  split
  · simp only [tagB, List.length_append, numBits_length]; omega
  · simp only [List.length_nil]; omega

theorem tagHi_rng (t : Int) : 0 ≤ tagHi t ∧ tagHi t < 4294967296 := by
  unfold tagHi
  have h : 0 ≤ IntKind.wrap .u64 t ∧ IntKind.wrap .u64 t < 18446744073709551616 := by
    simp only [IntKind.wrap, IntKind.bits, IntKind.signed]
    simp
    omega
  have e : (2 : Int) ^ (32 : Nat) = 4294967296 := by decide
  rw [e, Int.fdiv_eq_ediv_of_nonneg _ (by decide)]
  omega
theorem tagLo_rng (t : Int) : 0 ≤ tagLo t ∧ tagLo t < 4294967296 := by
  unfold tagLo
  simp only [IntKind.wrap, IntKind.bits, IntKind.signed]
  simp
  omega

set_option maxHeartbeats 1600000 in
theorem write_b {w00 : World} (hp : Pts w00) {B : Nat → Prop} {w : World} {r : Nat} {l : List Bool} (hS : Bn w00 B w w [] (WJ r l)) {e : Ent} (hf : e.fit) (ht : I64 e.t) {m : Nat} (hm : m < 64) (hl : l.length + 424 ≤ 1048576) {K : Value → World → Prop}
    (hK : ∀ w' L', Bn w00 B w w' L' (WJ r (l ++ wB e m)) → K (.tuple #[]) w') : cl Tryd.prog 29 #[.pointer (some ⟨r, 0, none⟩), e.v, .int .i64 (m : Int)] w K := by
  apply F29_calls
  unfold F29
  (refine hS.nw ?_; clear hS; intro r1 _ hS)
  refine hp.load hS.all fun p0 n0 c0 p1 n1 c1 p2 n2 c2 p3 n3 c3 p4 n4 c4 harr => ?_
  refine lp_mk (fun k : Nat => [.int .i64 (k : Int)]) (fun z k w' => z = 5 - k ∧ k ≤ 5 ∧ Bn w00 B w w' [(r1, e.cells, 59)] (WJ r (l ++ upB e m k))) 5 0 rfl ⟨rfl, Nat.zero_le _, by rw [upB, List.append_nil]; exact hS⟩ ?_
  clear hS
  rintro _ k w1 ⟨rfl, hk, hS⟩ J hJ
  refine asI_i rfl (cond_split (fun hc => ?_) (fun hc => ?_))
  · have hk5 : k < 5 := by
      have := of_decide_eq_true hc
      omega
    obtain ⟨p, c, l', hA, hP, hR⟩ := harr k hk5
    obtain ⟨l2, hP2, hG, hl2, hmem⟩ := parT_get hk5
    obtain rfl : l' = l2 := Option.some.inj (hP.symm.trans hP2)
    have hup := upB_len (e := e) (m := m) hk
    refine jn_of (fun s w' => s = [] ∧ Bn w00 B w w' [(r1, e.cells, 59)] (WJ r (l ++ upB e m (k + 1)))) ?_ ?_
    · rintro _ w2 ⟨rfl, hS2⟩
      have ek : IntKind.wrap .i64 ((k : Int) + 1) = ((k + 1 : Nat) : Int) := by rw [wr64 (by omega) (by omega)]; omega
      rw [ek]
      exact hJ (5 - (k + 1)) (k + 1) _ (by omega) ⟨rfl, by omega, hS2⟩
    intro J2 hJ2
    refine bnd_mk (by omega) (by omega) (so_i hA (asS_i rfl (lv_i (nn_mk ?_ ?_))))
    · rw [wr64 (by omega) (by omega)]; omega
    rw [mbit hm hk5]
    refine cond_split (fun hb => hJ2 _ _ ⟨rfl, ?_⟩) (fun hb => ?_)
    · have hb' : m.testBit (5 - k) = false := by simpa using hb
      rw [upB, partB, hb']
      simpa using hS
    have hb' : m.testBit (5 - k) = true := by simpa using hb
    refine lp_mk (fun j : Nat => [.int .i64 (j : Int)]) (fun z j w' => z = l'.length - j ∧ j ≤ l'.length ∧ Bn w00 B w w' [(r1, e.cells, 59)] (WJ r (l ++ upB e m k ++ (l'.take j).flatMap (numB e)))) l'.length 0 rfl ⟨rfl, Nat.zero_le _, by simpa using hS⟩ ?_
    clear hS
    rintro _ j w2 ⟨rfl, hj, hS⟩ J3 hJ3
    refine asI_i rfl (cond_split (fun hc2 => ?_) (fun hc2 => ?_))
    · have hjl : j < l'.length := by
        have := of_decide_eq_true hc2
        omega
      have hx : l'[j]? = some l'[j] := List.getElem?_eq_getElem hjl
      have hfx := hf l' hmem _ (List.getElem_mem hjl)
      generalize l'[j] = x at hx hfx
      have hlen : ((l'.take j).flatMap (numB e)).length + x.2.1 ≤ 72 := by
        have h1 := flat_len (e := e) hk5
        rw [hG] at h1
        have h2 : l' = l'.take (j + 1) ++ l'.drop (j + 1) := (List.take_append_drop _ _).symm
        have h3 : l'.take (j + 1) = l'.take j ++ [x] := by rw [List.take_add_one, hx]; rfl
        rw [h2, h3, List.flatMap_append, List.flatMap_append, List.length_append, List.length_append] at h1
        have h4 : ([x].flatMap (numB e)).length = x.2.1 := by simp [numB_length]
        omega
      have hbig : e.at x.1 + x.2.2 ≤ 9223372036854775807 := by
        have h1 := hfx.2.2.1
        have h2 : (2 : Nat) ^ x.2.1 ≤ 2 ^ 44 := Nat.pow_le_pow_right (by decide) hfx.2.2.2.1
        have h3 : (2 : Nat) ^ 44 = 17592186044416 := by decide
        omega
      refine Reads.atN (f := numC) numC_length (hR.ext hS.all fun _ _ h => h) rfl hx (by decide) fun a _ hca => ?_
      have hc0 := hca 0 (by decide)
      have hc1 := hca 1 (by decide)
      have hc2' := hca 2 (by decide)
      rw [Sx.add_zero'] at hc0
      rw [Int.toNat_natCast]
      refine ld_mk hc0 (asN_i rfl (ld_mk hc1 (asI_i rfl (ld_mk hc2' (asI_i rfl ?_)))))
      (refine hS.nw ?_; clear hS; intro r2 _ hS)
      refine hS.st0 0 rfl rfl rfl fun w3 hS => ?_
      refine hS.st 0 rfl rfl rfl fun w4 hS => ?_
      refine hS.st 0 rfl rfl rfl fun w5 hS => ?_
      refine hS.dw fun w6 hS _ => ?_
      refine hS.ld0 0 rfl rfl (asN_i rfl (hS.ld 0 rfl rfl (asI_i rfl (hS.ld 0 rfl rfl (asI_i rfl (cond_t (numF_ok x.1) (numF_k hfx.2.2.2.2.1 hfx.2.2.2.2.2 (asP_i rfl (hS.hd 0 rfl rfl (hS.hd 0 rfl rfl (dr_i (ld_mk (hS.cell 1 rfl (e.cells_at (by omega))) (asI_i rfl ?_)))))))))))))
      rw [wr64 hfx.1 hbig]
      refine hS.put hfx.2.1 hfx.2.2.1 (by omega) (by simp only [List.length_append]; omega) fun w7 hS => asI_i rfl (hd_i (hS.cell 1 rfl (e.cells_at (by omega))) (hS.hd 0 rfl rfl ?_))
      have ej : IntKind.wrap .i64 ((j : Int) + 1) = ((j + 1 : Nat) : Int) := by rw [wr64 (by omega) (by omega)]; omega
      rw [ej]
      refine hJ3 (l'.length - (j + 1)) (j + 1) _ (by omega) ⟨rfl, by omega, ?_⟩
      have et : (l'.take (j + 1)).flatMap (numB e) = (l'.take j).flatMap (numB e) ++ numB e x := by rw [List.take_add_one, hx, List.flatMap_append]; simp
      rw [et, ← List.append_assoc]
      exact hS.tail
    · have hjl : j = l'.length := by
        have := of_decide_eq_false hc2
        omega
      subst hjl
      rw [List.take_length] at hS
      refine hJ2 _ _ ⟨rfl, ?_⟩
      rw [upB, partB, hb', hG, ← List.append_assoc]
      exact hS
  · have hk5 : k = 5 := by
      have := of_decide_eq_false hc
      omega
    subst hk5
    rw [mbit0 hm]
    have hup := upB_len (e := e) (m := m) (Nat.le_refl 5)
    refine cond_split (fun hb => ?_) (fun hb => ?_)
    · refine hS.ld 0 rfl rfl (asI_i rfl ?_)
      obtain ⟨a1, a2⟩ := tagHi_rng e.t
      obtain ⟨b1, b2⟩ := tagLo_rng e.t
      have e1 : IntKind.wrap .i64 (Int.fdiv (IntKind.wrap .u64 e.t) (2 ^ (min (Int.toNat (32 : Int)) 64))) = tagHi e.t := wr64 (n := tagHi e.t) (by omega) (by omega)
      have e2 : IntKind.wrap .i64 (IntKind.wrap .u32 e.t) = tagLo e.t := wr64 (n := tagLo e.t) (by omega) (by omega)
      rw [e1]
      have p32 : (2 : Nat) ^ 32 = 4294967296 := by decide
      refine hS.put (n := 32) a1 (by omega) (by decide) (by simp only [List.length_append]; omega) fun w3 hS => asI_i rfl (hS.ld 0 rfl rfl (asI_i rfl ?_))
      rw [e2]
      refine hS.put (n := 32) b1 (by omega) (by decide) (by simp only [List.length_append, numBits_length]; omega) fun w4 hS => asI_i rfl (hK _ [(r1, e.cells, 59)] ?_)
      have ew : l ++ wB e m = l ++ upB e m 5 ++ numBits (tagHi e.t).toNat 32 ++ numBits (tagLo e.t).toNat 32 := by simp [wB, hb, tagB]
      rw [ew]
      exact hS
    · have ew : l ++ wB e m = l ++ upB e m 5 := by simp [wB, hb]
      refine hK _ [(r1, e.cells, 59)] ?_
      rw [ew]
      exact hS
end Go.Proofs.YtfnepdppkmjboaaDoor

/- SnH: which parts of two entities differ (snap.mask). Conditions: those of each theorem, on its arguments. -/
namespace Go.Proofs.YtfnepdppkmjboaaDoor
open Go Go.Sx Go.Fp
attribute [local irreducible] jn lv ld st nw asI asB asP asS asY asM asF asA asT lp rn ru rq cl dw dr bnd bn2 nz nn hd hr so eqW
attribute [local irreducible] callOk

def diff1 (e f : Ent) (x : Nat × Nat × Int) : Bool := e.at x.1 != f.at x.1
def diffs (e f : Ent) (k : Nat) : Bool := (parT.getD k []).any (diff1 e f)
def mUp (e f : Ent) : Nat → Nat
  | 0 => 0
  | k + 1 => mUp e f k ||| (if diffs e f k then 2 ^ (5 - k) else 0)
def maskN (e f : Ent) : Nat := mUp e f 5 ||| (if e.t != f.t then 1 else 0)

theorem mask_ok : callOk Tryd.prog 48 = true := by kernel_rfl

theorem num_at {l : List (Nat × Nat × Int)} (hl : l ∈ parT) {x : Nat × Nat × Int} (hx : x ∈ l) : 1 ≤ x.1 ∧ x.1 ≤ 6 := by
  simp only [parT, List.mem_cons, List.not_mem_nil, or_false] at hl
  rcases hl with rfl | rfl | rfl | rfl | rfl <;> simp only [List.mem_cons, List.not_mem_nil, or_false] at hx
  · subst hx; decide
  · subst hx; decide
  · subst hx; decide
  · rcases hx with rfl | rfl <;> decide
  · subst hx; decide

theorem diff1_k {w : World} {ra rb : Nat} {e f : Ent} (ha : ∀ k, k < 8 → w.cell? ⟨ra, k, none⟩ = e.cells[k]?) (hb : ∀ k, k < 8 → w.cell? ⟨rb, k, none⟩ = f.cells[k]?) {x : Nat × Nat × Int} (h1 : 1 ≤ x.1) (h6 : x.1 ≤ 6) {K : Value → World → Prop}
    (hK : ∀ w', Ext no w w' → K (.bool (diff1 e f x)) w') :
    cl Tryd.prog 48 (#[] ++ #[.agg #[.func (.func (numF x.1)) #[] #[], .int .i64 (x.2.1 : Int), .int .i64 x.2.2]] ++ #[.pointer (some ⟨ra, 0, none⟩), .pointer (some ⟨rb, 0, none⟩)]) w K := by
  have ea : (#[] ++ #[.agg #[.func (.func (numF x.1)) #[] #[], .int .i64 (x.2.1 : Int), .int .i64 x.2.2]] ++ #[.pointer (some ⟨ra, 0, none⟩), .pointer (some ⟨rb, 0, none⟩)] : Array Value) =
    #[.agg #[.func (.func (numF x.1)) #[] #[], .int .i64 (x.2.1 : Int), .int .i64 x.2.2], .pointer (some ⟨ra, 0, none⟩), .pointer (some ⟨rb, 0, none⟩)] := by simp
  rw [ea]
  apply F48_calls
  unfold F48
  have hS := St.start w
  (refine hS.nw ?_; clear hS; intro r1 _ hS)
  refine hS.dw fun w2 hS _ => ?_
  have ca : w2.cell? ⟨ra, x.1, none⟩ = some (.int .i64 (e.at x.1)) := hS.ext.cell ((ha x.1 (by omega)).trans (e.cells_at (by omega))) (fun h => h)
  have cb : w2.cell? ⟨rb, x.1, none⟩ = some (.int .i64 (f.at x.1)) := hS.ext.cell ((hb x.1 (by omega)).trans (f.cells_at (by omega))) (fun h => h)
  refine hS.ld0 0 rfl rfl (asN_i rfl (hS.ld0 0 rfl rfl (asN_i rfl (cond_t (numF_ok _) (numF_k h1 h6 (asP_i rfl (hS.hd0 0 rfl rfl (dr_i (ld_mk ca (asI_i rfl (cond_t (numF_ok _) (numF_k h1 h6 (asP_i rfl (hd_i ca (dr_i (ld_mk cb (asI_i rfl ?_)))))))))))))))))
  exact hK _ hS.ext

theorem anyd_k {w : World} {ra rb : Nat} {e f : Ent} (ha : ∀ k, k < 8 → w.cell? ⟨ra, k, none⟩ = e.cells[k]?) (hb : ∀ k, k < 8 → w.cell? ⟨rb, k, none⟩ = f.cells[k]?) {l : List (Nat × Nat × Int)} (hl : l ∈ parT) (hl2 : l.length ≤ 2) {p : Option Addr} {c : Nat} (hR : Reads w p (l.flatMap numC)) {K : Value → World → Prop}
    (hK : ∀ w', Ext no w w' → K (.bool (l.any (diff1 e f))) w') :
    cl Tryd.prog 47 #[.slice p l.length c, .func (.func 48) #[] #[.pointer (some ⟨ra, 0, none⟩), .pointer (some ⟨rb, 0, none⟩)]] w K := by
  apply F47_calls
  unfold F47
  apply F55_calls
  unfold F55
  refine lv_i ?_
  refine lp_mk (fun j : Nat => [.int .i64 (j : Int)]) (fun z j w' => z = l.length - j ∧ j ≤ l.length ∧ Ext no w w' ∧ (l.take j).any (diff1 e f) = false) l.length 0 rfl ⟨rfl, Nat.zero_le _, Ext.refl _ _, by simp⟩ ?_
  rintro _ j w1 ⟨rfl, hj, hx, hno⟩ J hJ
  refine asI_i rfl (cond_split (fun hc => lv_i ?_) (fun hc => lv_i (asI_i rfl ?_)))
  · have hjl : j < l.length := by
      have := of_decide_eq_true hc
      omega
    have hget : l[j]? = some l[j] := List.getElem?_eq_getElem hjl
    have hat := num_at hl (List.getElem_mem hjl)
    generalize l[j] = x at hget hat
    refine Reads.atN (f := numC) numC_length (hR.ext hx fun _ _ h => h) rfl hget (by decide) fun a _ hca => ?_
    have hc0 := hca 0 (by decide)
    rw [Sx.add_zero'] at hc0
    rw [Int.toNat_natCast]
    refine ld_mk hc0 (asN_i rfl (ld_mk (hca 1 (by decide)) (asI_i rfl (ld_mk (hca 2 (by decide)) (asI_i rfl (cond_t mask_ok ?_))))))
    refine diff1_k (e := e) (f := f) (fun k hk => ?_) (fun k hk => ?_) hat.1 hat.2 fun w2 hx2 => asB_i rfl (cond_split (fun hd => lv_i (asI_i rfl ?_)) (fun hd => ?_))
    · have : k < e.cells.length := by rw [Ent.cells_length]; exact hk
      rw [List.getElem?_eq_getElem this]
      exact hx.cell ((ha k hk).trans (List.getElem?_eq_getElem this)) (fun h => h)
    · have : k < f.cells.length := by rw [Ent.cells_length]; exact hk
      rw [List.getElem?_eq_getElem this]
      exact hx.cell ((hb k hk).trans (List.getElem?_eq_getElem this)) (fun h => h)
    · have hany : l.any (diff1 e f) = true := List.any_eq_true.2 ⟨x, List.mem_of_getElem? hget, hd⟩
      have hk := hK w2 (hx.trans hx2)
      rw [hany] at hk
      have e0 : decide ((j : Int) ≥ 0) = true := by simp
      rw [e0]
      exact hk
    · have ej : IntKind.wrap .i64 ((j : Int) + 1) = ((j + 1 : Nat) : Int) := by rw [wr64 (by omega) (by omega)]; omega
      rw [ej]
      refine hJ (l.length - (j + 1)) (j + 1) _ (by omega) ⟨rfl, by omega, hx.trans hx2, ?_⟩
      rw [List.take_add_one, hget, List.any_append, hno]
      simpa using hd
  · have hjl : j = l.length := by
      have := of_decide_eq_false hc
      omega
    subst hjl
    rw [List.take_length] at hno
    have hk := hK w1 hx
    rw [hno] at hk
    exact hk

theorem mUp_lt (e f : Ent) : ∀ {k : Nat}, k ≤ 5 → mUp e f k < 64
  | 0, _ => Nat.succ_pos 63
  | k + 1, hk => by
    have h1 := mUp_lt e f (k := k) (by omega)
    have h2 : (if diffs e f k then 2 ^ (5 - k) else 0) < 64 := by
      split
      · exact Nat.lt_of_le_of_lt (Nat.pow_le_pow_right (by decide) (by omega : 5 - k ≤ 5)) (by decide)
      · decide
    exact Nat.or_lt_two_pow (n := 6) h1 h2
theorem maskN_lt (e f : Ent) : maskN e f < 64 := Nat.or_lt_two_pow (n := 6) (mUp_lt e f (Nat.le_refl 5)) (by split <;> decide)

theorem mor {m k : Nat} (hm : m < 64) (hk : k < 5) : Go.bits .or .i64 (m : Int) (IntKind.wrap .i64 ((1 : Int) * 2 ^ (min (Int.toNat (IntKind.wrap .i64 ((5 : Int) - (k : Int)))) 64))) = ((m ||| 2 ^ (5 - k) : Nat) : Int) := by
  have h : ((List.range 64).all fun m => (List.range 5).all fun k => decide (Go.bits .or .i64 (m : Int) (IntKind.wrap .i64 ((1 : Int) * 2 ^ (min (Int.toNat (IntKind.wrap .i64 ((5 : Int) - (k : Int)))) 64))) = ((m ||| 2 ^ (5 - k) : Nat) : Int))) = true := by kernel_rfl
  rw [List.all_eq_true] at h
  have h1 := h m (List.mem_range.2 hm)
  rw [List.all_eq_true] at h1
  exact of_decide_eq_true (h1 k (List.mem_range.2 hk))
theorem mor0 {m : Nat} (hm : m < 64) : Go.bits .or .i64 (m : Int) (1 : Int) = ((m ||| 1 : Nat) : Int) := by
  have h : ((List.range 64).all fun m => decide (Go.bits .or .i64 (m : Int) (1 : Int) = ((m ||| 1 : Nat) : Int))) = true := by kernel_rfl
  rw [List.all_eq_true] at h
  exact of_decide_eq_true (h m (List.mem_range.2 hm))

theorem mask_k {w00 : World} (hp : Pts w00) {w : World} (hw : Ext no w00 w) {e f : Ent} {K : Value → World → Prop} (hK : ∀ w', Ext no w w' → K (.int .i64 (maskN e f : Int)) w') :
    cl Tryd.prog 30 #[e.v, f.v] w K := by
  apply F30_calls
  unfold F30
  have hS := St.start w
  (refine hS.nw ?_; clear hS; intro r1 _ hS)
  (refine hS.nw ?_; clear hS; intro r2 _ hS)
  refine lv_i (lv_i ?_)
  refine hp.load (hw.trans hS.ext) fun p0 n0 c0 p1 n1 c1 p2 n2 c2 p3 n3 c3 p4 n4 c4 harr => ?_
  refine lp_mk (fun t : Nat × Nat => [.int .i64 (t.1 : Int), .int .i64 (t.2 : Int)]) (fun z t w' => z = 5 - t.2 ∧ t.2 ≤ 5 ∧ t.1 = mUp e f t.2 ∧ St w w' [(r2, f.cells, 59), (r1, e.cells, 59)]) 5 (0, 0) rfl ⟨rfl, Nat.zero_le _, rfl, hS⟩ ?_
  clear hS
  rintro _ ⟨m, k⟩ w1 ⟨rfl, hk, hm, hS⟩ J hJ
  simp only at hk hm hJ ⊢
  subst hm
  have hlt := mUp_lt e f hk
  refine asI_i rfl (asI_i rfl (cond_split (fun hc => ?_) (fun hc => ?_)))
  · have hk5 : k < 5 := by
      have := of_decide_eq_true hc
      omega
    obtain ⟨p, c, l', hA, hP, hR⟩ := harr k hk5
    obtain ⟨l2, hP2, hG, hl2, hmem⟩ := parT_get hk5
    obtain rfl : l' = l2 := Option.some.inj (hP.symm.trans hP2)
    refine jn_of (fun s w' => s = [.int .i64 (mUp e f (k + 1) : Int)] ∧ St w w' [(r2, f.cells, 59), (r1, e.cells, 59)]) ?_ ?_
    · rintro _ w2 ⟨rfl, hS2⟩
      have ek : IntKind.wrap .i64 ((k : Int) + 1) = ((k + 1 : Nat) : Int) := by rw [wr64 (by omega) (by omega)]; omega
      rw [ek]
      exact asI_i rfl (hJ (5 - (k + 1)) (_, k + 1) _ (by omega) ⟨rfl, by simp only; omega, rfl, hS2⟩)
    intro J2 hJ2
    refine bnd_mk (by omega) (by omega) (so_i hA (asS_i rfl (lv_i ?_)))
    refine anyd_k (e := e) (f := f) (fun j hj => ?_) (fun j hj => ?_) hmem hl2 (hR.ext (hw.trans hS.ext) fun _ _ h => h) fun w2 hx => asB_i rfl (cond_split (fun hd => ?_) (fun hd => hJ2 _ _ ⟨?_, hS.to hx⟩))
    · have h8 : j < e.cells.length := by rw [Ent.cells_length]; exact hj
      rw [List.getElem?_eq_getElem h8]
      exact hS.cell 1 rfl (List.getElem?_eq_getElem h8)
    · have h8 : j < f.cells.length := by rw [Ent.cells_length]; exact hj
      rw [List.getElem?_eq_getElem h8]
      exact hS.cell 0 rfl (List.getElem?_eq_getElem h8)
    · refine nn_mk ?_ ?_
      · rw [wr64 (by omega) (by omega)]; omega
      rw [mor hlt hk5]
      refine lv_i (hJ2 _ _ ⟨?_, hS.to hx⟩)
      have : diffs e f k = true := by unfold diffs; rw [hG]; exact hd
      simp only [mUp, this, if_true]
    · have : diffs e f k = false := by unfold diffs; rw [hG]; exact hd
      simp [mUp, this]
  · have hk5 : k = 5 := by
      have := of_decide_eq_false hc
      omega
    subst hk5
    refine jn_of (fun s w' => s = [.int .i64 (maskN e f : Int)] ∧ Ext no w w') ?_ ?_
    · rintro _ w2 ⟨rfl, hx⟩
      exact asI_i rfl (lv_i (hK _ hx))
    intro J2 hJ2
    refine hS.ld 1 rfl rfl (asI_i rfl (hS.ld 0 rfl rfl (asI_i rfl (cond_split (fun hd => ?_) (fun hd => hJ2 _ _ ⟨?_, hS.ext⟩)))))
    · rw [mor0 hlt]
      refine lv_i (hJ2 _ _ ⟨?_, hS.ext⟩)
      have hd' : (e.t != f.t) = true := hd
      simp only [maskN, hd', if_true]
    · have hd' : (e.t != f.t) = false := hd
      simp [maskN, hd']
end Go.Proofs.YtfnepdppkmjboaaDoor

/- SnI: the row of last shots in memory: find, put; copies of entities. Conditions: those of each theorem, on its arguments. -/
namespace Go.Proofs.YtfnepdppkmjboaaDoor
open Go Go.Sx Go.Fp
attribute [local irreducible] jn lv ld st nw asI asB asP asS asY asM asF asA asT lp rn ru rq cl dw dr bnd bn2 nz nn hd hr so eqW
attribute [local irreducible] callOk

set_option maxRecDepth 100000 in
theorem sSh : SlN Tryd.prog 62 68 2 32 := ⟨rfl, ⟨_, _, rfl, rfl, rfl, rfl, rfl⟩, by decide⟩
set_option maxRecDepth 100000 in
theorem sSh' : SlN Tryd.prog 61 68 2 32 := ⟨rfl, ⟨_, _, rfl, rfl, rfl, rfl, rfl⟩, by decide⟩

/-- a shot in memory -/
structure Sh where
  t : Int
  p : Option Addr
  c : Nat
  es : List Ent
def Sh.cells (s : Sh) : List Value := [.int .i64 s.t, .slice s.p s.es.length s.c]
def Sh.abs (s : Sh) : Int × List Ent := (s.t, s.es)
theorem Sh.cells_length (s : Sh) : s.cells.length = 2 := rfl
theorem Sh.one (s : Sh) : ∀ u ∈ s.cells, Sx.one u = true := by
  intro u hu
  simp only [Sh.cells, List.mem_cons, List.not_mem_nil, or_false] at hu
  rcases hu with rfl | rfl <;> rfl

def fdV : Option Sh → Value
  | some s => .tuple #[.agg #[.int .i64 s.t, .slice s.p s.es.length s.c], .bool true]
  | none => .tuple #[.agg #[.int .i64 0, .slice none 0 0], .bool false]

theorem find_k {w : World} {p : Option Addr} {c : Nat} {R : List Sh} (hR : Reads w p (R.flatMap Sh.cells)) (hn : R.length ≤ 4611686018427387904) {tick : Int} {K : Value → World → Prop}
    (hK : ∀ w', Ext no w w' → K (fdV (R.find? fun s => s.t == tick)) w') :
    cl Tryd.prog 27 #[.slice p R.length c, .int .i64 tick] w K := by
  apply F27_calls
  unfold F27
  have hS := St.start w
  (refine hS.nw ?_; clear hS; intro r1 _ hS)
  refine lp_mk (fun j : Nat => [.int .i64 (j : Int)]) (fun z j w' => z = R.length - j ∧ j ≤ R.length ∧ St w w' [(r1, [.int .i64 0, .slice none 0 0], 68)] ∧ (R.take j).find? (fun s => s.t == tick) = none) R.length 0 rfl ⟨rfl, Nat.zero_le _, hS, by simp⟩ ?_
  clear hS
  rintro _ j w1 ⟨rfl, hj, hS, hno⟩ J hJ
  refine asI_i rfl (cond_split (fun hc => ?_) (fun hc => ?_))
  · have hjl : j < R.length := by
      have := of_decide_eq_true hc
      omega
    have hget : R[j]? = some R[j] := List.getElem?_eq_getElem hjl
    generalize R[j] = s at hget
    refine Reads.atN (f := Sh.cells) Sh.cells_length (hR.ext hS.ext fun _ _ h => h) rfl hget (by decide) fun a _ hca => ?_
    have hc0 := hca 0 (by decide)
    rw [Sx.add_zero'] at hc0
    rw [Int.toNat_natCast]
    refine ld_mk hc0 (asI_i rfl (ld_mk (hca 1 (by decide)) (asS_i rfl ?_)))
    (refine hS.nw ?_; clear hS; intro r2 _ hS)
    refine hS.st0 0 rfl rfl rfl fun w2 hS => ?_
    refine hS.st 0 rfl rfl rfl fun w3 hS => ?_
    refine hS.ld0 0 rfl rfl (asI_i rfl (cond_split (fun hd => ?_) (fun hd => ?_)))
    · refine hS.ld0 0 rfl rfl (asI_i rfl (hS.ld 0 rfl rfl (asS_i rfl ?_)))
      refine hS.st0 1 rfl rfl rfl fun w4 hS => ?_
      refine hS.st 1 rfl rfl rfl fun w5 hS => ?_
      refine hS.ld0 1 rfl rfl (asI_i rfl (hS.ld 1 rfl rfl (asS_i rfl ?_)))
      have hf : R.find? (fun s => s.t == tick) = some s := by
        have h2 : R = R.take j ++ s :: R.drop (j + 1) := by
          obtain ⟨hl, e⟩ := List.getElem?_eq_some_iff.1 hget
          rw [← e]
          simp
        rw [h2, List.find?_append, hno]
        simp [hd]
      have := hK _ hS.ext
      rw [hf] at this
      exact this
    · have ej : IntKind.wrap .i64 ((j : Int) + 1) = ((j + 1 : Nat) : Int) := by rw [wr64 (by omega) (by omega)]; omega
      rw [ej]
      refine hJ (R.length - (j + 1)) (j + 1) _ (by omega) ⟨rfl, by omega, hS.tail, ?_⟩
      rw [List.take_add_one, hget, List.find?_append, hno]
      simp [hd]
  · have hjl : j = R.length := by
      have := of_decide_eq_false hc
      omega
    subst hjl
    rw [List.take_length] at hno
    refine hS.st0 0 rfl rfl rfl fun w4 hS => ?_
    refine hS.st 0 rfl rfl rfl fun w5 hS => ?_
    refine hS.ld0 0 rfl rfl (asI_i rfl (hS.ld 0 rfl rfl (asS_i rfl ?_)))
    have := hK _ hS.ext
    rw [hno] at this
    exact this

theorem RowN.new0 {w : World} {base : Nat} {e : TypeId} {s : Nat} (h : base ≤ w.heap.size) : RowN (w.alloc (.cells #[] e)) base e s (some ⟨w.heap.size, 0, none⟩) 0 0 [] :=
  ⟨⟨by simp, .inr ⟨w.heap.size, 0, #[], rfl, h, new_blk w _, Nat.le_refl _, by decide, by simp, by simp⟩⟩⟩

/-- a copy of a row -/
theorem clone_g {P : Program} {t e : TypeId} {s b : Nat} (ht : SlN P t e s b) {w : World} {p : Option Addr} {n c : Nat} {xs : List Value} (hr : Reads w p xs) (hl : xs.length = n * s) (hn : p = none → n = 0) (h1 : ∀ u ∈ xs, one u = true) (h63 : n ≤ maxLen) (hb : n * b ≤ 140737488355328) {K : Value → World → Prop}
    (hK : ∀ p' c' w', Ext no w w' → RowN w' w.heap.size e s p' c' n xs → K (.slice p' n c') w') :
    cond (Option.isNone p) (K (.slice none 0 0) w) (nw w (.cells #[] e) fun r1 w2 => rn P (Builtin.append_ #[t, t] t #[.slice (some ⟨r1, 0, none⟩) 0 0, .slice p n c]) w2 fun v3 w4 => asS v3 fun p5 n6 c7 => K (.slice p5 n6 c7) w4) := by
  cases p with
  | none =>
    have h0 := hn rfl
    subst h0
    have hx0 : xs = [] := List.eq_nil_of_length_eq_zero (by simpa using hl)
    subst hx0
    exact cond_t rfl (hK none 0 w (Ext.refl _ _) (RowN.nil _ _ _ _))
  | some a =>
    refine cond_f rfl (nw_mk ?_)
    have hx : Ext no w (w.alloc (.cells #[] e)) := Ext.alloc w _
    refine ht.app (n := 0) (RowN.new0 (Nat.le_refl _)) hx.size (hr.ext hx fun _ _ h => h) hl (fun h => by cases h) h1 (by omega) (by rw [Nat.zero_add]; exact hb) ?_
    intro p' c' w' hrow hE hm _
    rw [Nat.zero_add] at *
    rw [List.nil_append] at hrow
    refine asS_i rfl (hK p' c' w' (hx.then hE fun k hk hbk => ?_) hrow)
    obtain ⟨a', ha', rfl⟩ := hbk
    cases ha'
    exact absurd hk (Nat.lt_irrefl _)

theorem nil_of_reads {w : World} {es : List Ent} (h : Reads w none (es.flatMap Ent.cells)) : es.length = 0 := by
  rcases h with h | ⟨_, _, h, _⟩
  · have := fl_lenN (f := Ent.cells) Ent.cells_length es
    rw [h] at this
    simp only [List.length_nil] at this
    omega
  · cases h
theorem ents_one (es : List Ent) : ∀ u ∈ es.flatMap Ent.cells, Sx.one u = true := by
  intro u hu
  obtain ⟨e, _, h⟩ := List.mem_flatMap.1 hu
  exact e.one u h
theorem shs_one (R : List Sh) : ∀ u ∈ R.flatMap Sh.cells, Sx.one u = true := by
  intro u hu
  obtain ⟨e, _, h⟩ := List.mem_flatMap.1 hu
  exact e.one u h

theorem eclone_k {w : World} {p : Option Addr} {c : Nat} {es : List Ent} (hr : Reads w p (es.flatMap Ent.cells)) (hn : es.length ≤ 1000000) {K : Value → World → Prop}
    (hK : ∀ p' c' w', Ext no w w' → RowN w' w.heap.size 59 8 p' c' es.length (es.flatMap Ent.cells) → K (.slice p' es.length c') w') :
    cl Tryd.prog 32 #[.slice p es.length c] w K := by
  apply F32_calls
  unfold F32
  refine clone_g sE hr (fl_lenN Ent.cells_length es) (fun h => ?_) (ents_one es) (le_maxLen (by omega)) (by omega) hK
  subst h
  exact nil_of_reads hr
end Go.Proofs.YtfnepdppkmjboaaDoor

/- SnJ: who holds the last shots: a sender or an applier in memory; one more shot. Conditions: those of each theorem, on its arguments. -/
namespace Go.Proofs.YtfnepdppkmjboaaDoor
open Go Go.Sx Go.Fp
attribute [local irreducible] jn lv ld st nw asI asB asP asS asY asM asF asA asT lp rn ru rq cl dw dr bnd bn2 nz nn hd hr so eqW
attribute [local irreducible] callOk

/-- the block q: a row of shots, then tl -/
structure RX (w : World) (q : Nat) (tl : List Value) (T : TypeId) (p : Option Addr) (c : Nat) (R : List Sh) : Prop where
  blk : w.heap[q]? = some (.cells (Value.slice p R.length c :: tl).toArray T (0, 0))
  row : RowN w 0 68 2 p c R.length (R.flatMap Sh.cells)
  np : ∀ a, p = some a → a.block ≠ q
  vw : ∀ s ∈ R, Reads w s.p (s.es.flatMap Ent.cells) ∧ ∀ a, s.p = some a → a.block < w.heap.size ∧ a.block ≠ q ∧ ∀ b, p = some b → b.block ≠ a.block

def rB (q : Nat) (p : Option Addr) (R : List Sh) : Nat → Prop := fun k => k = q ∨ blocks p k ∨ ∃ s ∈ R, blocks s.p k

theorem RX.ext {w w' : World} {q : Nat} {tl : List Value} {T : TypeId} {p : Option Addr} {c : Nat} {R : List Sh} (h : RX w q tl T p c R) {M : Nat → Prop} (hx : Ext M w w') (hM : ∀ k, rB q p R k → ¬ M k) : RX w' q tl T p c R :=
  ⟨hx.blk h.blk (hM q (.inl rfl)), h.row.ext hx fun a ha => hM _ (.inr (.inl ⟨a, ha, rfl⟩)), h.np, fun s hs => ⟨(h.vw s hs).1.ext hx fun a ha => hM _ (.inr (.inr ⟨s, hs, a, ha, rfl⟩)), fun a ha => ⟨Nat.lt_of_lt_of_le ((h.vw s hs).2 a ha).1 hx.size, ((h.vw s hs).2 a ha).2⟩⟩⟩

theorem RX.lt {w : World} {q : Nat} {tl : List Value} {T : TypeId} {p : Option Addr} {c : Nat} {R : List Sh} (h : RX w q tl T p c R) : ∀ k, rB q p R k → k < w.heap.size := by
  rintro k (rfl | ⟨a, ha, rfl⟩ | ⟨s, hs, a, ha, rfl⟩)
  · exact blk_lt h.blk
  · exact (h.row.at ha).2
  · exact ((h.vw s hs).2 a ha).1

def lastR {α : Type} (R : List α) : List α := if 16 < R.length then R.drop 1 else R
theorem lastR_len {α : Type} {R : List α} (h : R.length ≤ 17) : (lastR R).length ≤ 16 := by
  unfold lastR
  split
  · rw [List.length_drop]; omega
  · omega
theorem lastR_map {α β : Type} (f : α → β) (R : List α) : (lastR R).map f = lastR (R.map f) := by
  unfold lastR
  rw [List.length_map]
  split
  · rw [List.map_drop]
  · rfl
theorem lastR_sub {α : Type} {R : List α} {x : α} (h : x ∈ lastR R) : x ∈ R := by
  unfold lastR at h
  split at h
  · exact List.mem_of_mem_drop h
  · exact h

theorem drop1 {w : World} {p : Option Addr} {c : Nat} {R : List Sh} (h : Reads w p (R.flatMap Sh.cells)) (hc : c ≠ 1) : Reads w (slp p c 1 2) ((R.drop 1).flatMap Sh.cells) := by
  cases R with
  | nil => exact .inl rfl
  | cons x R =>
    rcases h with h | ⟨b, o, rfl, hcs⟩
    · exact absurd (congrArg List.length h) (by simp [Sh.cells])
    · refine .inr ⟨b, o + 2, ?_, fun i v hv => ?_⟩
      · unfold slp
        rw [if_neg hc]
        simp [add_mk]
      · have := hcs (i + 2) v (by simpa [Sh.cells] using hv)
        rw [show o + 2 + i = o + (i + 2) by omega]
        exact this

theorem rclone_k {w : World} {p : Option Addr} {n c : Nat} {R : List Sh} (hr : Reads w p (R.flatMap Sh.cells)) (hn : R.length = n) (h17 : n ≤ 17) (hp : p ≠ none) {K : Value → World → Prop}
    (hK : ∀ p' c' w', Ext no w w' → RowN w' w.heap.size 68 2 p' c' n (R.flatMap Sh.cells) → K (.slice p' n c') w') :
    cl Tryd.prog 49 #[.slice p n c] w K := by
  apply F49_calls
  unfold F49
  exact clone_g sSh hr (by rw [fl_lenN Sh.cells_length, hn]) (fun h => absurd h hp) (shs_one _) (le_maxLen (by omega)) (by omega) hK

theorem rput_k {w : World} {q : Nat} {tl : List Value} {T : TypeId} {p : Option Addr} {c : Nat} {R : List Sh} (h : RX w q tl T p c R) {s : Sh} (hs : Reads w s.p (s.es.flatMap Ent.cells)) (hsa : ∀ a, s.p = some a → a.block < w.heap.size ∧ a.block ≠ q ∧ ∀ b, p = some b → b.block ≠ a.block) (hn : R.length ≤ 16) {K : Value → World → Prop}
    (hK : ∀ p' c' w', RX w' q tl T p' c' (lastR (R ++ [s])) → Ext (fun k => k = q ∨ blocks p k) w w' → Moved w p p' → K (.tuple #[]) w') :
    cl Tryd.prog 31 #[.pointer (some ⟨q, 0, none⟩), .agg #[.int .i64 s.t, .slice s.p s.es.length s.c]] w K := by
  apply F31_calls
  unfold F31
  have hS := St.start w
  (refine hS.nw ?_; clear hS; intro r1 _ hS)
  refine hS.dw fun w3 hS _ => ?_
  have b3 := hS.ext.blk h.blk (fun h => h)
  refine dr_i (ld_mk (by rw [blk_cell b3]; rfl) (asS_i rfl (hS.ld0 0 rfl rfl (asI_i rfl (hS.ld 0 rfl rfl (asS_i rfl ?_))))))
  refine nw_mk (hd_i (by rw [blk_cell ((Ext.alloc w3 _).blk b3 (fun h => h))]; rfl) ?_)
  have hx4 : Ext no w3 (w3.alloc (.cells s.cells.toArray 68)) := Ext.alloc w3 _
  have hx04 : Ext no w (w3.alloc (.cells s.cells.toArray 68)) := hS.ext.trans hx4
  have hrow4 := h.row.ext hx04 fun _ _ h => h
  refine sSh.app (news := s.cells) (m := 1) hrow4 (Nat.zero_le _) (Reads.new w3 s.cells _) rfl (fun h => by cases h) s.one (le_maxLen (by omega)) (by omega) ?_
  intro p5 c5 w5 hrow5 hE5 hm5 hnn5
  have hx5 : Ext (fun k => k = q ∨ blocks p k) w w5 := (Ext.of_no hx04).trans (hE5.mono fun k _ hk => .inr hk)
  have b5 : w5.heap[q]? = some (.cells (Value.slice p R.length c :: tl).toArray T (0, 0)) := hE5.blk (hx04.blk h.blk (fun h => h)) fun ⟨a, ha, e⟩ => h.np a ha e
  refine asS_i rfl (dr_i (st_mk b5 (by simp) rfl ?_))
  have hx6 := Ext.set w5 ⟨q, 0, none⟩ (.slice p5 (R.length + 1) c5)
  have b6 := blk_set b5 0 (.slice p5 (R.length + 1) c5)
  have e6 : (Value.slice p R.length c :: tl).toArray.setIfInBounds 0 (.slice p5 (R.length + 1) c5) = (Value.slice p5 (R.length + 1) c5 :: tl).toArray := by simp
  rw [e6] at b6
  have hm : Moved w p p5 := by
    rcases hm5 with rfl | hm5
    · exact .inl rfl
    · exact .inr fun a ha => Nat.le_trans hx04.size (hm5 a ha)
  have hnp : ∀ a, p5 = some a → a.block ≠ q := by
    intro a ha
    rcases hm with rfl | hm
    · exact h.np a ha
    · have := hm a ha
      have := blk_lt h.blk
      omega
  have hrow6 := hrow5.ext hx6 fun a ha e => hnp a ha e
  have hx06 : Ext (fun k => k = q ∨ blocks p k) w (w5.setCell ⟨q, 0, none⟩ (.slice p5 (R.length + 1) c5)) := hx5.trans (hx6.mono fun k _ hk => .inl hk)
  have hflat : R.flatMap Sh.cells ++ s.cells = (R ++ [s]).flatMap Sh.cells := by simp
  rw [hflat] at hrow6
  have hvw : ∀ s' ∈ R ++ [s], Reads (w5.setCell ⟨q, 0, none⟩ (.slice p5 (R.length + 1) c5)) s'.p (s'.es.flatMap Ent.cells) ∧ ∀ a, s'.p = some a → a.block < w.heap.size ∧ a.block ≠ q ∧ ∀ b, p = some b → b.block ≠ a.block := by
    intro s' hs'
    have key : Reads w s'.p (s'.es.flatMap Ent.cells) ∧ ∀ a, s'.p = some a → a.block < w.heap.size ∧ a.block ≠ q ∧ ∀ b, p = some b → b.block ≠ a.block := by
      rcases List.mem_append.1 hs' with hs' | hs'
      · exact h.vw s' hs'
      · obtain rfl := List.mem_singleton.1 hs'
        exact ⟨hs, hsa⟩
    refine ⟨key.1.ext hx06 fun a ha => ?_, key.2⟩
    obtain ⟨_, h2, h3⟩ := key.2 a ha
    rintro (e | ⟨b, hb, e⟩)
    · exact h2 e
    · exact h3 b hb e
  refine dr_i (ld_mk (by rw [blk_cell b6]; rfl) (asS_i rfl (cond_split (fun hc => ?_) (fun hc => ?_))))
  · have h16 : R.length = 16 := by
      have := of_decide_eq_true hc
      omega
    have hle : R.length + 1 ≤ c5 := hrow6.le_max
    refine dr_i (ld_mk (by rw [blk_cell b6]; rfl) (asS_i rfl (bn2_mk (by decide) (by omega) ?_)))
    have e1 : Int.toNat (1 : Int) = 1 := rfl
    rw [e1]
    have hd := drop1 (c := c5) hrow6.reads (by omega)
    have hdl : ((R ++ [s]).drop 1).length = R.length + 1 - 1 := by simp
    refine rclone_k hd hdl (by omega) (fun hp => ?_) fun p7 c7 w7 hx7 hrow7 => ?_
    · have : p5 = none := by
        unfold slp at hp
        rw [if_neg (by omega)] at hp
        simpa using hp
      exact absurd (hnn5 this) (by omega)
    have b7 := hx7.blk b6 (fun h => h)
    refine asS_i rfl (dr_i (st_mk b7 (by simp) rfl ?_))
    have hx8 := Ext.set w7 ⟨q, 0, none⟩ (.slice p7 (R.length + 1 - 1) c7)
    have b8 := blk_set b7 0 (.slice p7 (R.length + 1 - 1) c7)
    have e8 : (Value.slice p5 (R.length + 1) c5 :: tl).toArray.setIfInBounds 0 (.slice p7 (R.length + 1 - 1) c7) = (Value.slice p7 (R.length + 1 - 1) c7 :: tl).toArray := by simp
    rw [e8] at b8
    have hl : lastR (R ++ [s]) = (R ++ [s]).drop 1 := by unfold lastR; rw [if_pos (by simp; omega)]
    have hnew : ∀ a, p7 = some a → w.heap.size ≤ a.block := fun a ha => Nat.le_trans hx06.size (hrow7.at ha).1
    have hq := blk_lt h.blk
    have hx68 : Ext (onl q) (w5.setCell ⟨q, 0, none⟩ (.slice p5 (R.length + 1) c5)) (w7.setCell ⟨q, 0, none⟩ (.slice p7 (R.length + 1 - 1) c7)) := (Ext.of_no hx7).trans hx8
    refine hK p7 c7 _ ⟨?_, ?_, ?_, ?_⟩ (hx06.trans (hx68.mono fun k _ hk => .inl hk)) (.inr hnew)
    · rw [hl, hdl]; exact b8
    · rw [hl, hdl]
      exact (hrow7.mono (Nat.zero_le _)).ext hx8 fun a ha e => by
        have h1 := hnew a ha
        have h2 : a.block = q := e
        omega
    · intro a ha
      have := hnew a ha
      omega
    · intro s' hs'
      have hs2 := hvw s' (lastR_sub hs')
      refine ⟨hs2.1.ext hx68 fun a ha e => (hs2.2 a ha).2.1 e, fun a ha => ?_⟩
      obtain ⟨h1, h2, h3⟩ := hs2.2 a ha
      refine ⟨Nat.lt_of_lt_of_le h1 (Nat.le_trans hx06.size hx68.size), h2, fun b hb e => ?_⟩
      have := hnew b hb
      omega
  · have h16 : R.length < 16 := by
      have := of_decide_eq_false hc
      omega
    have hl : lastR (R ++ [s]) = R ++ [s] := by unfold lastR; rw [if_neg (by simp; omega)]
    refine hK p5 c5 _ ⟨?_, ?_, hnp, ?_⟩ hx06 hm
    · rw [hl, List.length_append]; exact b6
    · rw [hl, List.length_append]; exact hrow6.mono (Nat.zero_le _)
    · rw [hl]
      intro s' hs'
      have hs2 := hvw s' hs'
      refine ⟨hs2.1, fun a ha => ?_⟩
      obtain ⟨h1, h2, h3⟩ := hs2.2 a ha
      refine ⟨Nat.lt_of_lt_of_le h1 hx06.size, h2, fun b hb e => ?_⟩
      rcases hm with rfl | hm
      · exact h3 b hb e
      · have := hm b hb
        omega
end Go.Proofs.YtfnepdppkmjboaaDoor

/- SnK: which views may be (snap.Right). Conditions: those of each theorem, on its arguments. -/
namespace Go.Proofs.YtfnepdppkmjboaaDoor
open Go Go.Sx Go.Fp
attribute [local irreducible] jn lv ld st nw asI asB asP asS asY asM asF asA asT lp rn ru rq cl dw dr bnd bn2 nz nn hd hr so eqW
attribute [local irreducible] callOk

def Ent.ok (last : Int) (e : Ent) : Bool := decide (e.rightE = 0) && decide (64 ≤ e.h) && decide (Int.tdiv e.h 64 ≤ 1099511627776) && decide (last < Int.tmod e.h 64)
def okV (last : Int) : List Ent → Bool
  | [] => true
  | e :: es => e.ok last && okV (Int.tmod e.h 64) es

theorem place_k {e : Ent} {w : World} {K : Value → World → Prop} (hK : ∀ w', Ext no w w' → K (.int .i64 (Int.tmod e.h 64)) w') : cl Tryd.prog 37 #[e.v] w K := by
  apply F37_calls
  unfold F37
  have hS := St.start w
  (refine hS.nw ?_; clear hS; intro r1 _ hS)
  refine lv_i (hS.ld0 0 rfl rfl (asI_i rfl (lv_i (hK _ hS.ext))))

theorem St.ld8 {w0 w : World} {L : List (Nat × List Value × TypeId)} (h : St w0 w L) (i : Nat) {r : Nat} {e : Ent} {t : TypeId} (hL : L[i]? = some (r, e.cells, t)) {K : Int → Int → Int → Int → Int → Int → Int → Int → Prop} (hK : K e.h e.x e.y e.r e.vx e.vy e.o e.t) :
    ld w ⟨r, 0, none⟩ fun v1 => asI .i64 v1 fun x0 => ld w (Addr.add ⟨r, 0, none⟩ 1) fun v2 => asI .i64 v2 fun x1 => ld w (Addr.add ⟨r, 0, none⟩ 2) fun v3 => asI .i64 v3 fun x2 => ld w (Addr.add ⟨r, 0, none⟩ 3) fun v4 => asI .i64 v4 fun x3 =>
      ld w (Addr.add ⟨r, 0, none⟩ 4) fun v5 => asI .i64 v5 fun x4 => ld w (Addr.add ⟨r, 0, none⟩ 5) fun v6 => asI .i64 v6 fun x5 => ld w (Addr.add ⟨r, 0, none⟩ 6) fun v7 => asI .i64 v7 fun x6 => ld w (Addr.add ⟨r, 0, none⟩ 7) fun v8 => asI .i64 v8 fun x7 => K x0 x1 x2 x3 x4 x5 x6 x7 := by
  refine ld8c (e := e) (fun k hk => ?_) hK
  have h8 : k < e.cells.length := by rw [Ent.cells_length]; exact hk
  rw [add_mk, Nat.zero_add, List.getElem?_eq_getElem h8]
  exact h.cell i hL (List.getElem?_eq_getElem h8)
theorem Bn8 {w00 : World} {M : Nat → Prop} {wa w : World} {L : List (Nat × List Value × TypeId)} {J : (Nat → Prop) → World → Prop} (h : Bn w00 M wa w L J) (i : Nat) {r : Nat} {e : Ent} {t : TypeId} (hL : L[i]? = some (r, e.cells, t)) {K : Int → Int → Int → Int → Int → Int → Int → Int → Prop} (hK : K e.h e.x e.y e.r e.vx e.vy e.o e.t) :
    ld w ⟨r, 0, none⟩ fun v1 => asI .i64 v1 fun x0 => ld w (Addr.add ⟨r, 0, none⟩ 1) fun v2 => asI .i64 v2 fun x1 => ld w (Addr.add ⟨r, 0, none⟩ 2) fun v3 => asI .i64 v3 fun x2 => ld w (Addr.add ⟨r, 0, none⟩ 3) fun v4 => asI .i64 v4 fun x3 =>
      ld w (Addr.add ⟨r, 0, none⟩ 4) fun v5 => asI .i64 v5 fun x4 => ld w (Addr.add ⟨r, 0, none⟩ 5) fun v6 => asI .i64 v6 fun x5 => ld w (Addr.add ⟨r, 0, none⟩ 6) fun v7 => asI .i64 v7 fun x6 => ld w (Addr.add ⟨r, 0, none⟩ 7) fun v8 => asI .i64 v8 fun x7 => K x0 x1 x2 x3 x4 x5 x6 x7 := by
  refine ld8c (e := e) (fun k hk => ?_) hK
  have h8 : k < e.cells.length := by rw [Ent.cells_length]; exact hk
  rw [add_mk, Nat.zero_add, List.getElem?_eq_getElem h8]
  exact h.cell i hL (List.getElem?_eq_getElem h8)

/-- a local entity is filled -/
theorem St.put8 {w0 w : World} {L : List (Nat × List Value × TypeId)} {r : Nat} {cs : List Value} {t : TypeId} (h : St w0 w ((r, cs, t) :: L)) (hc : cs.length = 8) (e : Ent) {K : World → Prop} (hK : ∀ w', St w0 w' ((r, e.cells, t) :: L) → K w') :
    Sx.st w ⟨r, 0, none⟩ (.int .i64 e.h) fun w1 => Sx.st w1 (Addr.add ⟨r, 0, none⟩ 1) (.int .i64 e.x) fun w2 => Sx.st w2 (Addr.add ⟨r, 0, none⟩ 2) (.int .i64 e.y) fun w3 => Sx.st w3 (Addr.add ⟨r, 0, none⟩ 3) (.int .i64 e.r) fun w4 =>
      Sx.st w4 (Addr.add ⟨r, 0, none⟩ 4) (.int .i64 e.vx) fun w5 => Sx.st w5 (Addr.add ⟨r, 0, none⟩ 5) (.int .i64 e.vy) fun w6 => Sx.st w6 (Addr.add ⟨r, 0, none⟩ 6) (.int .i64 e.o) fun w7 => Sx.st w7 (Addr.add ⟨r, 0, none⟩ 7) (.int .i64 e.t) fun w8 => K w8 := by
  match cs, hc with
  | [a0, a1, a2, a3, a4, a5, a6, a7], _ =>
    exact h.st0 0 rfl rfl rfl fun w2 h => h.st 0 rfl rfl rfl fun w3 h => h.st 0 rfl rfl rfl fun w4 h => h.st 0 rfl rfl rfl fun w5 h => h.st 0 rfl rfl rfl fun w6 h => h.st 0 rfl rfl rfl fun w7 h => h.st 0 rfl rfl rfl fun w8 h => h.st 0 rfl rfl rfl fun w9 h => hK _ h
theorem Bn.put8 {w00 : World} {M : Nat → Prop} {wa w : World} {L : List (Nat × List Value × TypeId)} {J : (Nat → Prop) → World → Prop} {r : Nat} {cs : List Value} {t : TypeId} (h : Bn w00 M wa w ((r, cs, t) :: L) J) (hc : cs.length = 8) (e : Ent) {K : World → Prop} (hK : ∀ w', Bn w00 M wa w' ((r, e.cells, t) :: L) J → K w') :
    Sx.st w ⟨r, 0, none⟩ (.int .i64 e.h) fun w1 => Sx.st w1 (Addr.add ⟨r, 0, none⟩ 1) (.int .i64 e.x) fun w2 => Sx.st w2 (Addr.add ⟨r, 0, none⟩ 2) (.int .i64 e.y) fun w3 => Sx.st w3 (Addr.add ⟨r, 0, none⟩ 3) (.int .i64 e.r) fun w4 =>
      Sx.st w4 (Addr.add ⟨r, 0, none⟩ 4) (.int .i64 e.vx) fun w5 => Sx.st w5 (Addr.add ⟨r, 0, none⟩ 5) (.int .i64 e.vy) fun w6 => Sx.st w6 (Addr.add ⟨r, 0, none⟩ 6) (.int .i64 e.o) fun w7 => Sx.st w7 (Addr.add ⟨r, 0, none⟩ 7) (.int .i64 e.t) fun w8 => K w8 := by
  match cs, hc with
  | [a0, a1, a2, a3, a4, a5, a6, a7], _ =>
    exact h.st0 0 rfl rfl rfl fun w2 h => h.st 0 rfl rfl rfl fun w3 h => h.st 0 rfl rfl rfl fun w4 h => h.st 0 rfl rfl rfl fun w5 h => h.st 0 rfl rfl rfl fun w6 h => h.st 0 rfl rfl rfl fun w7 h => h.st 0 rfl rfl rfl fun w8 h => h.st 0 rfl rfl rfl fun w9 h => hK _ h

theorem vright_k {w : World} {p : Option Addr} {n c : Nat} {es : List Ent} (hr : Reads w p (es.flatMap Ent.cells)) (hn : es.length = n) (hl : n ≤ 4611686018427387904) (hI : ∀ e ∈ es, e.I) {K : Value → World → Prop}
    (hK : ∀ w', Ext no w w' → K (.int .i64 (if okV (-1) es then 0 else 220)) w') :
    cl Tryd.prog 21 #[.slice p n c] w K := by
  subst hn
  apply F21_calls
  unfold F21
  refine lv_i (lv_i ?_)
  refine lp_mk (fun t : Int × Nat => [.int .i64 t.1, .int .i64 (t.2 : Int)]) (fun z t w' => z = es.length - t.2 ∧ t.2 ≤ es.length ∧ okV (-1) es = okV t.1 (es.drop t.2) ∧ Ext no w w') es.length (-1, 0) rfl ⟨rfl, Nat.zero_le _, rfl, Ext.refl _ _⟩ ?_
  rintro _ ⟨last, i⟩ w1 ⟨rfl, hi, hok, hx⟩ J hJ
  simp only at hi hok hJ ⊢
  refine asI_i rfl (asI_i rfl (cond_split (fun hc => ?_) (fun hc => lv_i ?_)))
  · have hil : i < es.length := by
      have := of_decide_eq_true hc
      omega
    have hget : es[i]? = some es[i] := List.getElem?_eq_getElem hil
    have hIe := hI _ (List.getElem_mem hil)
    have hdrop : es.drop i = es[i] :: es.drop (i + 1) := List.drop_eq_getElem_cons hil
    rw [hdrop] at hok
    generalize es[i] = e at hget hIe hok
    refine Reads.atN (f := Ent.cells) Ent.cells_length (hr.ext hx fun _ _ h => h) rfl hget (by decide) fun a _ hca => ?_
    rw [Int.toNat_natCast]
    refine ld8c hca ?_
    have hS := St.start w1
    (refine hS.nw ?_; clear hS; intro r1 _ hS)
    refine St.put8 hS rfl e fun w2 hS => ?_
    refine jn_of (fun s w' => s = [.bool (!e.ok last)] ∧ St w1 w' [(r1, e.cells, 59)]) ?_ ?_
    · rintro _ w3 ⟨rfl, hS⟩
      refine asB_i rfl (cond_split (fun hb => lv_i ?_) (fun hb => ?_))
      · have hb' : e.ok last = false := by simpa using hb
        have := hK w3 (hx.trans hS.ext)
        rw [hok, okV, hb'] at this
        exact this
      · have hb' : e.ok last = true := by simpa using hb
        refine St.ld8 hS 0 rfl ?_
        refine place_k (e := e) fun w4 hx4 => asI_i rfl (lv_i ?_)
        have ei : IntKind.wrap .i64 ((i : Int) + 1) = ((i + 1 : Nat) : Int) := by rw [wr64 (by omega) (by omega)]; omega
        rw [ei]
        refine hJ (es.length - (i + 1)) (_, i + 1) _ (by omega) ⟨rfl, by simp only; omega, ?_, (hx.trans hS.ext).trans hx4⟩
        rw [hok, okV, hb']
        rfl
    intro J2 hJ2
    refine St.ld8 hS 0 rfl ?_
    refine eright_k (e := e) fun w3 hx3 => asI_i rfl (cond_split (fun hb => hJ2 _ _ ⟨?_, hS.to hx3⟩) (fun hb => ?_))
    · have : ¬ e.rightE = 0 := by simpa using hb
      simp [Ent.ok, this]
    have h0 : e.rightE = 0 := by simpa using hb
    have hS3 := hS.to hx3
    refine hS3.ld0 0 rfl rfl (asI_i rfl (cond_split (fun hb => hJ2 _ _ ⟨?_, hS3⟩) (fun hb => hS3.ld0 0 rfl rfl (asI_i rfl ?_))))
    · have : ¬ 64 ≤ e.h := by have := of_decide_eq_true hb; omega
      simp [Ent.ok, this]
    have h64 : 64 ≤ e.h := by have := of_decide_eq_false hb; omega
    have hdiv : IntKind.wrap .i64 (Int.tdiv e.h 64) = Int.tdiv e.h 64 := by
      have h1 := hIe.1
      obtain ⟨h1, h2⟩ := h1
      have : Int.tdiv e.h 64 = e.h / 64 := Int.tdiv_eq_ediv_of_nonneg (by omega)
      rw [this, wr64 (by omega) (by omega)]
    rw [hdiv]
    refine cond_split (fun hb => hJ2 _ _ ⟨?_, hS3⟩) (fun hb => ?_)
    · have : ¬ Int.tdiv e.h 64 ≤ 1099511627776 := by have := of_decide_eq_true hb; omega
      simp [Ent.ok, this]
    have hm : Int.tdiv e.h 64 ≤ 1099511627776 := by have := of_decide_eq_false hb; omega
    refine St.ld8 hS3 0 rfl ?_
    refine place_k (e := e) fun w4 hx4 => asI_i rfl (hJ2 _ _ ⟨?_, hS3.to hx4⟩)
    simp only [Ent.ok, h0, h64, hm, decide_true, Bool.true_and, Value.bool.injEq, List.cons.injEq, and_true]
    by_cases hlt : last < Int.tmod e.h 64
    · simp [hlt]
    · simp [hlt]; omega
  · have hil : i = es.length := by
      have := of_decide_eq_false hc
      omega
    subst hil
    have := hK w1 hx
    rw [hok, List.drop_length] at this
    exact this
end Go.Proofs.YtfnepdppkmjboaaDoor

/- SnL: views by their places: the table of a view. Conditions: those of each theorem, on its arguments. -/
namespace Go.Proofs.YtfnepdppkmjboaaDoor
open Go Go.Sx Go.Fp
attribute [local irreducible] jn lv ld st nw asI asB asP asS asY asM asF asA asT lp rn ru rq cl dw dr bnd bn2 nz nn hd hr so eqW
attribute [local irreducible] callOk

def emp (B : Nat → Prop) (_ : World) : Prop := ∀ k, ¬ B k
theorem emp_kp : Kp emp := fun _ _ _ _ h => h
theorem Bn.fresh (w : World) : Bn w no w w [] emp := ⟨Ext.refl _ _, fun _ h => h.elim, Ext.refl _ _, by simp, List.Pairwise.nil, emp_kp, no, fun _ h => h, fun _ h => h.elim, by simp, fun _ _ h => h, fun _ h => h.elim⟩

section
variable {w00 : World} {M : Nat → Prop} {wa w : World} {L : List (Nat × List Value × TypeId)} {J : (Nat → Prop) → World → Prop}

theorem Bn.cs (h : Bn w00 M wa w L J) (i : Nat) {r : Nat} {cs : List Value} {t : TypeId} (hL : L[i]? = some (r, cs, t)) (j : Nat) : w.cell? ⟨r, j, none⟩ = cs[j]? := by
  have hk := (h.kn _ (List.mem_of_getElem? hL)).1
  rw [blk_cell hk]
  simp

theorem Bn.ldG (h : Bn w00 M wa w L J) (i : Nat) {r : Nat} {cs : List Value} {t : TypeId} (hL : L[i]? = some (r, cs, t)) {n : Nat} (hn : cs.length = n) {P : Program} {K : List Value → Prop} (hK : K cs) : Sx.ldG P w ⟨r, 0, none⟩ n K := by
  refine ⟨cs, hn, hold_of _ 0 fun j v hj => ?_, hK⟩
  rw [Nat.zero_add, add_mk, Nat.zero_add, Bn.cs h i hL, hj]

theorem Bn.stC (i r : Nat) (t : TypeId) : ∀ {vs : List Value} {j : Nat} {cs : List Value} {w : World} {L : List (Nat × List Value × TypeId)} {K : World → Prop}, Bn w00 M wa w L J → L[i]? = some (r, cs, t) → j + vs.length = cs.length → (∀ u ∈ vs, one u = true) →
    (∀ w', Bn w00 M wa w' (L.set i (r, cs.take j ++ vs, t)) J → K w') → stCells ⟨r, 0, none⟩ vs j w K
  | [], j, cs, w, L, K, h, hL, hl, _, hK => by
    refine hK w ?_
    have e1 : cs.take j ++ [] = cs := by rw [List.append_nil]; exact List.take_of_length_le (by simp at hl; omega)
    have e2 : L.set i (r, cs, t) = L := by
      apply List.ext_getElem?
      intro m
      by_cases hm : i = m
      · subst hm; rw [List.getElem?_set_self (List.getElem?_eq_some_iff.1 hL).1, hL]
      · rw [List.getElem?_set_ne hm]
    rw [e1, e2]
    exact h
  | v :: vs, j, cs, w, L, K, h, hL, hl, ho, hK => by
    simp only [List.length_cons] at hl
    show Sx.st w (Addr.add ⟨r, 0, none⟩ j) v fun w' => stCells ⟨r, 0, none⟩ vs (j + 1) w' K
    rw [add_mk, Nat.zero_add]
    refine h.stj i hL (by omega) (ho v List.mem_cons_self) fun w1 h1 _ => ?_
    refine Bn.stC i r t (cs := cs.set j v) h1 (List.getElem?_set_self (List.getElem?_eq_some_iff.1 hL).1) (by rw [List.length_set]; omega) (fun u hu => ho u (List.mem_cons_of_mem _ hu)) fun w' h' => hK w' ?_
    rw [List.set_set] at h'
    have e : (cs.set j v).take (j + 1) ++ vs = cs.take j ++ v :: vs := by
      rw [List.take_add_one, List.getElem?_set_self (by omega), List.take_set_of_le (Nat.le_refl _)]
      simp
    rw [e] at h'
    exact h'
theorem Bn.stCells (h : Bn w00 M wa w L J) (i : Nat) {r : Nat} {cs : List Value} {t : TypeId} (hL : L[i]? = some (r, cs, t)) {vs : List Value} (hl : vs.length = cs.length) (ho : ∀ u ∈ vs, one u = true) {K : World → Prop}
    (hK : ∀ w', Bn w00 M wa w' (L.set i (r, vs, t)) J → K w') : Sx.stCells ⟨r, 0, none⟩ vs 0 w K :=
  Bn.stC i r t h hL (by omega) ho fun w' h' => hK w' (by simpa using h')

theorem Bn.tst1 (h : Bn w00 M wa w L J) (i : Nat) {r : Nat} {T : List Ent} {t : TypeId} (hL : L[i]? = some (r, T.flatMap Ent.cells, t)) {p k : Nat} {old e' : Ent} (hg : T[p]? = some old) (hk : k < 8) {v : Value} (h1 : one v = true) (he : old.cells.set k v = e'.cells) {K : World → Prop}
    (hK : ∀ w', Bn w00 M wa w' (L.set i (r, (T.set p e').flatMap Ent.cells, t)) J → K w') : Sx.st w ⟨r, p * 8 + k, none⟩ v K := by
  have hp := (List.getElem?_eq_some_iff.1 hg).1
  refine h.stj i hL (by rw [fl_lenN Ent.cells_length]; omega) h1 fun w' h' _ => hK w' ?_
  rw [fl_setN (f := Ent.cells) (n := 8) (fun _ => rfl) (y := e') hg hk he] at h'
  exact h'

theorem Bn.tst8 (h : Bn w00 M wa w L J) (i : Nat) {r : Nat} {T : List Ent} {t : TypeId} (hL : L[i]? = some (r, T.flatMap Ent.cells, t)) {p : Nat} (hp : p < T.length) (e : Ent) {A : Addr} (hA : A = ⟨r, p * 8, none⟩) {K : World → Prop}
    (hK : ∀ w', Bn w00 M wa w' (L.set i (r, (T.set p e).flatMap Ent.cells, t)) J → K w') :
    Sx.st w A (.int .i64 e.h) fun w1 => Sx.st w1 (Addr.add A 1) (.int .i64 e.x) fun w2 => Sx.st w2 (Addr.add A 2) (.int .i64 e.y) fun w3 => Sx.st w3 (Addr.add A 3) (.int .i64 e.r) fun w4 =>
      Sx.st w4 (Addr.add A 4) (.int .i64 e.vx) fun w5 => Sx.st w5 (Addr.add A 5) (.int .i64 e.vy) fun w6 => Sx.st w6 (Addr.add A 6) (.int .i64 e.o) fun w7 => Sx.st w7 (Addr.add A 7) (.int .i64 e.t) fun w8 => K w8 := by
  subst hA
  have hil := (List.getElem?_eq_some_iff.1 hL).1
  have hg : T[p]? = some T[p] := List.getElem?_eq_getElem hp
  generalize T[p] = s at hg
  simp only [add_mk]
  have gL : ∀ x : Nat × List Value × TypeId, (L.set i x)[i]? = some x := fun x => List.getElem?_set_self hil
  have gT : ∀ q : Ent, (T.set p q)[p]? = some q := fun q => List.getElem?_set_self hp
  refine Bn.tst1 h i hL (k := 0) (e' := { s with h := e.h }) hg (by decide) rfl rfl fun w1 h1 => ?_
  refine Bn.tst1 h1 i (gL _) (k := 1) (e' := { s with h := e.h, x := e.x }) (gT _) (by decide) rfl rfl fun w2 h2 => ?_
  rw [List.set_set, List.set_set] at h2
  refine Bn.tst1 h2 i (gL _) (k := 2) (e' := { s with h := e.h, x := e.x, y := e.y }) (gT _) (by decide) rfl rfl fun w3 h3 => ?_
  rw [List.set_set, List.set_set] at h3
  refine Bn.tst1 h3 i (gL _) (k := 3) (e' := { s with h := e.h, x := e.x, y := e.y, r := e.r }) (gT _) (by decide) rfl rfl fun w4 h4 => ?_
  rw [List.set_set, List.set_set] at h4
  refine Bn.tst1 h4 i (gL _) (k := 4) (e' := { s with h := e.h, x := e.x, y := e.y, r := e.r, vx := e.vx }) (gT _) (by decide) rfl rfl fun w5 h5 => ?_
  rw [List.set_set, List.set_set] at h5
  refine Bn.tst1 h5 i (gL _) (k := 5) (e' := { s with h := e.h, x := e.x, y := e.y, r := e.r, vx := e.vx, vy := e.vy }) (gT _) (by decide) rfl rfl fun w6 h6 => ?_
  rw [List.set_set, List.set_set] at h6
  refine Bn.tst1 h6 i (gL _) (k := 6) (e' := { s with h := e.h, x := e.x, y := e.y, r := e.r, vx := e.vx, vy := e.vy, o := e.o }) (gT _) (by decide) rfl rfl fun w7 h7 => ?_
  rw [List.set_set, List.set_set] at h7
  refine Bn.tst1 h7 i (gL _) (k := 7) (e' := e) (gT _) (by decide) rfl rfl fun w8 h8 => ?_
  rw [List.set_set, List.set_set] at h8
  exact hK w8 h8

/-- the cells of the entry p of a table -/
theorem Bn.tcell (h : Bn w00 M wa w L J) (i : Nat) {r : Nat} {T : List Ent} {t : TypeId} (hL : L[i]? = some (r, T.flatMap Ent.cells, t)) {p : Nat} {e : Ent} (hg : T[p]? = some e) {A : Addr} (hA : A = ⟨r, p * 8, none⟩) : ∀ k, k < 8 → w.cell? (Addr.add A k) = e.cells[k]? := by
  intro k hk
  subst hA
  rw [add_mk, Bn.cs h i hL, fl_getN Ent.cells_length hg k hk]
theorem Bn.tcell0 (h : Bn w00 M wa w L J) (i : Nat) {r : Nat} {T : List Ent} {t : TypeId} (hL : L[i]? = some (r, T.flatMap Ent.cells, t)) {p : Nat} {e : Ent} (hg : T[p]? = some e) {A : Addr} (hA : A = ⟨r, p * 8, none⟩) : w.cell? A = some (.int .i64 e.h) := by
  have := Bn.tcell h i hL hg hA 0 (by decide)
  rwa [Sx.add_zero'] at this
end

def placeN (e : Ent) : Nat := (Int.tmod e.h 64).toNat
def tabF (T : List Ent) (e : Ent) : List Ent := T.set (placeN e) e
def tab (es : List Ent) : List Ent := es.foldl tabF (List.replicate 64 Ent.zero)
theorem tabF_len (T : List Ent) (e : Ent) : (tabF T e).length = T.length := List.length_set
theorem fold_len : ∀ (es : List Ent) (T : List Ent), (es.foldl tabF T).length = T.length
  | [], _ => rfl
  | e :: es, T => by rw [List.foldl_cons, fold_len es, tabF_len]
theorem tab_len (es : List Ent) : (tab es).length = 64 := by rw [tab, fold_len, List.length_replicate]
theorem place_of {e : Ent} (h : 0 ≤ e.h) : Int.tmod e.h 64 = (placeN e : Int) ∧ placeN e < 64 := by
  have : Int.tmod e.h 64 = e.h % 64 := Int.tmod_eq_emod_of_nonneg h
  unfold placeN
  rw [this]
  omega
theorem zc_table : zcells Tryd.prog 75 = (List.replicate 64 Ent.zero).flatMap Ent.cells := by kernel_rfl

theorem tabled_k {w : World} {p : Option Addr} {n c : Nat} {es : List Ent} (hr : Reads w p (es.flatMap Ent.cells)) (hn : es.length = n) (hl : n ≤ 4611686018427387904) (h0 : ∀ e ∈ es, 0 ≤ e.h) {K : Value → World → Prop}
    (hK : ∀ w', Ext no w w' → K (.agg ((tab es).flatMap Ent.cells).toArray) w') : cl Tryd.prog 28 #[.slice p n c] w K := by
  subst hn
  apply F28_calls
  unfold F28
  have hS := Bn.fresh w
  rw [zc_table]
  (refine hS.nw ?_; clear hS; intro r1 _ hS)
  refine lp_mk (fun i : Nat => [.int .i64 (i : Int)]) (fun z i w' => z = es.length - i ∧ i ≤ es.length ∧ Bn w no w w' [(r1, (tab (es.take i)).flatMap Ent.cells, 75)] emp) es.length 0 rfl ⟨rfl, Nat.zero_le _, hS⟩ ?_
  clear hS
  rintro _ i w1 ⟨rfl, hi, hS⟩ J hJ
  refine asI_i rfl (cond_split (fun hc => ?_) (fun hc => ?_))
  · have hil : i < es.length := by
      have := of_decide_eq_true hc
      omega
    have hget : es[i]? = some es[i] := List.getElem?_eq_getElem hil
    have h0e := h0 _ (List.getElem_mem hil)
    generalize es[i] = e at hget h0e
    refine Reads.atN (f := Ent.cells) Ent.cells_length (hr.ext hS.all fun _ _ h => h) rfl hget (by decide) fun a _ hca => ?_
    rw [Int.toNat_natCast]
    refine ld8c hca ?_
    (refine hS.nw ?_; clear hS; intro r2 _ hS)
    refine Bn.put8 hS rfl e fun w2 hS => ?_
    refine hS.dw fun w3 hS _ => ?_
    refine Bn8 hS 0 rfl (Bn8 hS 0 rfl ?_)
    refine place_k (e := e) fun w4 hx4 => asI_i rfl ?_
    have hS := hS.to hx4
    obtain ⟨hp1, hp2⟩ := place_of h0e
    rw [hp1]
    refine hd8c (e := e) (fun k hk => ?_) (bnd_mk (by omega) (by omega) ?_)
    · rw [add_mk, Nat.zero_add]; exact Bn.cs hS 0 rfl k
    rw [Int.toNat_natCast]
    refine Bn.tst8 hS 1 rfl (p := placeN e) (by rw [tab_len]; exact hp2) e (by rw [add_mk, Nat.zero_add]) fun w5 hS => ?_
    have ei : IntKind.wrap .i64 ((i : Int) + 1) = ((i + 1 : Nat) : Int) := by rw [wr64 (by omega) (by omega)]; omega
    rw [ei]
    refine hJ (es.length - (i + 1)) (i + 1) _ (by omega) ⟨rfl, by omega, ?_⟩
    have et : tab (es.take (i + 1)) = (tab (es.take i)).set (placeN e) e := by
      rw [List.take_add_one, hget]
      simp [tab, tabF]
    rw [et]
    exact hS.tail
  · have hil : i = es.length := by
      have := of_decide_eq_false hc
      omega
    subst hil
    rw [List.take_length] at hS
    have hl := fl_lenN (f := Ent.cells) Ent.cells_length (tab es)
    rw [tab_len] at hl
    refine Bn.ldG hS 0 rfl hl ?_
    rw [hl]
    refine cond_t rfl (Bn.stCells hS 0 rfl rfl (ents_one _) fun w2 hS => Bn.ldG hS 0 rfl hl (hK _ hS.all))
end Go.Proofs.YtfnepdppkmjboaaDoor

/- SnM: what a snapshot is, in plain Lean; a writer that is made; entities compared. Conditions: those of each theorem, on its arguments. -/
namespace Go.Proofs.YtfnepdppkmjboaaDoor
open Go Go.Sx Go.Fp
attribute [local irreducible] jn lv ld st nw asI asB asP asS asY asM asF asA asT lp rn ru rq cl dw dr bnd bn2 nz nn hd hr so eqW
attribute [local irreducible] callOk

set_option maxRecDepth 100000 in
theorem eqEnt2 {e f : Ent} (he : e.I) (hf : f.I) {K : Bool → Prop} (hK : K (decide (e = f))) : eqW Tryd.prog 59 e.v f.v K := by
  refine eqW_mk (by kernel_rfl) (fun w => ?_) hK
  have hk : Tryd.prog.keyTypeAt 4 59 = true := by kernel_rfl
  obtain ⟨r, hr, hiff⟩ := run_equalIn_deep (P := Tryd.prog) (10000 - 4) 4 59 hk w 4 4 e.v f.v _ _ rfl rfl (lits8 he) (lits8 hf)
  have e4 : 10000 - 4 + 4 = 10000 := rfl
  rw [e4] at hr
  have : r = decide (e = f) := by
    rw [Bool.eq_iff_iff, hiff, decide_eq_true_eq]
    constructor
    · intro h
      obtain ⟨a, b, c, d, g, i, j, k⟩ := e
      obtain ⟨a', b', c', d', g', i', j', k'⟩ := f
      simpa using h
    · intro h
      rw [h]
  rw [← this]
  exact hr

def goneB (T0 T : List Ent) (p : Nat) : Bool := ((T.getD p Ent.zero).h == 0) && ((T0.getD p Ent.zero).h != 0)
def othB (T0 T : List Ent) (p : Nat) : Bool := !(goneB T0 T p) && !(decide (T.getD p Ent.zero = T0.getD p Ent.zero))
def goneL (T0 T : List Ent) (k : Nat) : List Nat := (List.range k).filter (goneB T0 T)
def othL (T0 T : List Ent) (k : Nat) : List Nat := (List.range k).filter (othB T0 T)
def nI (l : List Nat) : List Int := l.map fun p : Nat => (p : Int)
def entB (T0 T : List Ent) (p : Nat) : List Bool :=
  numBits p 6 ++ (if (T.getD p Ent.zero).h ≠ (T0.getD p Ent.zero).h then numBits 1 1 ++ numBits (Int.tdiv (T.getD p Ent.zero).h 64).toNat 41 ++ wB (T.getD p Ent.zero) 63
    else numBits 0 1 ++ numBits (maskN (T.getD p Ent.zero) (T0.getD p Ent.zero)) 6 ++ wB (T.getD p Ent.zero) (maskN (T.getD p Ent.zero) (T0.getD p Ent.zero)))
def bodyB (T0 T : List Ent) : List Bool :=
  numBits (goneL T0 T 64).length 7 ++ (goneL T0 T 64).flatMap (fun p => numBits p 6) ++ numBits (othL T0 T 64).length 7 ++ (othL T0 T 64).flatMap (entB T0 T)
def headB (tick acked : Int) : Option (List Ent) → List Bool
  | some _ => numBits tick.toNat 40 ++ numBits 0 1 ++ numBits (tick - acked).toNat 16
  | none => numBits tick.toNat 40 ++ numBits 1 1
def makeB (tick acked : Int) (b : Option (List Ent)) (es : List Ent) : List Bool := headB tick acked b ++ bodyB (tab (b.getD [])) (tab es)

theorem goneL_succ (T0 T : List Ent) (k : Nat) : goneL T0 T (k + 1) = goneL T0 T k ++ if goneB T0 T k then [k] else [] := by
  unfold goneL
  rw [List.range_succ, List.filter_append]
  congr 1
  simp only [List.filter_cons, List.filter_nil]
theorem othL_succ (T0 T : List Ent) (k : Nat) : othL T0 T (k + 1) = othL T0 T k ++ if othB T0 T k then [k] else [] := by
  unfold othL
  rw [List.range_succ, List.filter_append]
  congr 1
  simp only [List.filter_cons, List.filter_nil]
theorem goneL_len (T0 T : List Ent) (k : Nat) : (goneL T0 T k).length ≤ k := by
  have := List.length_filter_le (goneB T0 T) (List.range k)
  rwa [List.length_range] at this
theorem othL_len (T0 T : List Ent) (k : Nat) : (othL T0 T k).length ≤ k := by
  have := List.length_filter_le (othB T0 T) (List.range k)
  rwa [List.length_range] at this
theorem goneL_lt {T0 T : List Ent} {k p : Nat} (h : p ∈ goneL T0 T k) : p < k := List.mem_range.1 (List.mem_filter.1 h).1
theorem othL_lt {T0 T : List Ent} {k p : Nat} (h : p ∈ othL T0 T k) : p < k := List.mem_range.1 (List.mem_filter.1 h).1
theorem nI_len (l : List Nat) : (nI l).length = l.length := by simp [nI]

/-- the entities of a view that may be -/
theorem okV_mem : ∀ {es : List Ent} {last : Int}, okV last es = true → ∀ e ∈ es, e.rightE = 0 ∧ 64 ≤ e.h ∧ Int.tdiv e.h 64 ≤ 1099511627776 ∧ last < Int.tmod e.h 64
  | [], _, _, _, h => by cases h
  | x :: es, last, hok, e, h => by
    simp only [okV, Ent.ok, Bool.and_eq_true, decide_eq_true_eq] at hok
    obtain ⟨⟨⟨⟨h1, h2⟩, h3⟩, h4⟩, h5⟩ := hok
    rcases List.mem_cons.1 h with rfl | h
    · exact ⟨h1, h2, h3, h4⟩
    · have := okV_mem h5 e h
      exact ⟨this.1, this.2.1, this.2.2.1, by omega⟩
theorem okV_len : ∀ {es : List Ent} {last : Int}, okV last es = true → last ≤ 63 → (es.length : Int) ≤ 63 - last
  | [], _, _, h => by simp; omega
  | x :: es, last, hok, h => by
    have hx := okV_mem hok x List.mem_cons_self
    simp only [okV, Bool.and_eq_true] at hok
    have hm : Int.tmod x.h 64 = x.h % 64 := Int.tmod_eq_emod_of_nonneg (by omega)
    have := okV_len hok.2 (by omega)
    simp only [List.length_cons]
    omega

section
variable {w00 : World} {M : Nat → Prop} {wa w : World} {L : List (Nat × List Value × TypeId)}
theorem _root_.Go.Sx.Bn.new (h : Bn w00 M wa w L emp) {K : Value → World → Prop} (hK : ∀ r w', Bn w00 M wa w' L (WJ r []) → K (.pointer (some ⟨r, 0, none⟩)) w') : cl Tryd.prog 25 #[] w K := by
  refine new_k fun r w' hx hW => hK r w' ?_
  have h1 := h.all.size
  have h2 := h.ext.size
  have hW0 : Wtr w' 0 r none 0 [] [] := ⟨Nat.zero_le _, Nat.zero_le _, hW.ne, hW.blk, Row.nil _ _ _, hW.pk, hW.most⟩
  have hr : ∀ k, wm r none k → w.heap.size ≤ k := by
    rintro k (rfl | ⟨a, ha, _⟩)
    · exact hW.hlo
    · cases ha
  refine Bn.act (B := no) h (fun k h => h.elim) (fun _ _ h => h) (fun _ _ h => h.elim) (fun _ h => h.elim) WJ.kp ⟨none, 0, [], rfl, hW0⟩ hx (wm_lt hW0) fun k hk h => ?_
  have := hr k h
  omega
end

/-- writers and shots of theirs: who holds the last shots, as a thing in memory -/
def RJ (q : Nat) (tl : List Value) (T : TypeId) (A : List (Int × List Ent)) (B : Nat → Prop) (w : World) : Prop := ∃ p c R, B = rB q p R ∧ RX w q tl T p c R ∧ R.map Sh.abs = A
theorem RJ.kp {q : Nat} {tl : List Value} {T : TypeId} {A : List (Int × List Ent)} : Kp (RJ q tl T A) := by
  rintro B w w' hx ⟨p, c, R, rfl, hX, hA⟩
  exact ⟨p, c, R, rfl, hX.ext hx fun k hk h => h hk, hA⟩

/-- what a sender or an applier keeps to -/
structure SOk (A : List (Int × List Ent)) : Prop where
  len : A.length ≤ 16
  rng : ∀ x ∈ A, 0 ≤ x.1 ∧ x.1 < 1099511627776
  ok : ∀ x ∈ A, okV (-1) x.2 = true ∧ ∀ e ∈ x.2, e.I
  inc : A.Pairwise fun a b => a.1 < b.1

theorem SOk.put {A : List (Int × List Ent)} (h : SOk A) {t : Int} {es : List Ent} (h0 : 0 ≤ t) (h1 : t < 1099511627776) (h2 : okV (-1) es = true) (h3 : ∀ e ∈ es, e.I) (h4 : ∀ x ∈ A, x.1 < t) : SOk (lastR (A ++ [(t, es)])) := by
  have hl := h.len
  have mem : ∀ x ∈ lastR (A ++ [(t, es)]), x ∈ A ∨ x = (t, es) := fun x hx => by
    have := lastR_sub hx
    simpa using this
  refine ⟨lastR_len (by simp; omega), fun x hx => ?_, fun x hx => ?_, ?_⟩
  · rcases mem x hx with hx | rfl
    · exact h.rng x hx
    · exact ⟨h0, h1⟩
  · rcases mem x hx with hx | rfl
    · exact h.ok x hx
    · exact ⟨h2, h3⟩
  · have hp : (A ++ [(t, es)]).Pairwise fun a b => a.1 < b.1 := List.pairwise_append.2 ⟨h.inc, by simp, fun a ha b hb => by
      obtain rfl := List.mem_singleton.1 hb
      exact h4 a ha⟩
    unfold lastR
    split
    · exact hp.sublist (List.drop_sublist _ _)
    · exact hp
end Go.Proofs.YtfnepdppkmjboaaDoor

/- SnN: the loops of Sender.Make: who is gone and who is other; what is written of them. Conditions: those of each theorem, on its arguments. -/
namespace Go.Proofs.YtfnepdppkmjboaaDoor
open Go Go.Sx Go.Fp
attribute [local irreducible] jn lv ld st nw asI asB asP asS asY asM asF asA asT lp rn ru rq cl dw dr bnd bn2 nz nn hd hr so eqW
attribute [local irreducible] callOk

theorem nI_app (l m : List Nat) : nI (l ++ m) = nI l ++ nI m := by simp [nI]
theorem iv_app (k : IntKind) (l m : List Int) : iv k (l ++ m) = iv k l ++ iv k m := by simp [iv]
theorem tget {T : List Ent} (hl : T.length = 64) {p : Nat} (hp : p < 64) : T[p]? = some (T.getD p Ent.zero) := by
  rw [List.getD_eq_getElem?_getD, List.getElem?_eq_getElem (by omega)]
  rfl
theorem tmem {T : List Ent} (hl : T.length = 64) {p : Nat} (hp : p < 64) : T.getD p Ent.zero ∈ T := List.mem_of_getElem? (tget hl hp)
theorem bcell {w : World} {r : Nat} {T : List Ent} {t : TypeId} (hb : w.heap[r]? = some (.cells (T.flatMap Ent.cells).toArray t (0, 0))) {p : Nat} {e : Ent} (hg : T[p]? = some e) : ∀ k, k < 8 → w.cell? (Addr.add (Addr.add ⟨r, 0, none⟩ (p * 8)) k) = e.cells[k]? := by
  intro k hk
  rw [add_mk, add_mk, Nat.zero_add, blk_cell hb]
  have := fl_getN Ent.cells_length hg k hk
  simpa using this
theorem bcell0 {w : World} {r : Nat} {T : List Ent} {t : TypeId} (hb : w.heap[r]? = some (.cells (T.flatMap Ent.cells).toArray t (0, 0))) {p : Nat} {e : Ent} (hg : T[p]? = some e) : w.cell? (Addr.add ⟨r, 0, none⟩ (p * 8)) = some (.int .i64 e.h) := by
  have := bcell hb hg 0 (by decide)
  rwa [Sx.add_zero'] at this

set_option maxHeartbeats 1600000 in
theorem collect_k {w : World} {r109 r111 : Nat} {T0 T : List Ent} (hb0 : w.heap[r109]? = some (.cells (T0.flatMap Ent.cells).toArray 75 (0, 0))) (hb1 : w.heap[r111]? = some (.cells (T.flatMap Ent.cells).toArray 75 (0, 0)))
    (l0 : T0.length = 64) (l1 : T.length = 64) (i0 : ∀ e ∈ T0, e.I) (i1 : ∀ e ∈ T, e.I) {Q : Option Addr → Nat → Nat → Option Addr → Nat → Nat → World → Prop}
    (hQ : ∀ p c p' c' w', Ext no w w' → Row w' w.heap.size 3 p c (iv .i64 (nI (goneL T0 T 64))) → Row w' w.heap.size 3 p' c' (iv .i64 (nI (othL T0 T 64))) → Q p (goneL T0 T 64).length c p' (othL T0 T 64).length c' w') :
    (lp [(.slice none 0 0), (.slice none 0 0), (.int .i64 (0 : Int))] w fun J117 s115 w116 => asS (s115.getD 0 undef) fun p118 n119 c120 => asS (s115.getD 1 undef) fun p121 n122 c123 => asI .i64 (s115.getD 2 undef) fun x124 => 
(cond (decide (x124 < (64 : Int))) 
(jn (fun s125 w126 => asS (s125.getD 0 undef) fun p185 n186 c187 => asS (s125.getD 1 undef) fun p188 n189 c190 => (J117 [(.slice p185 n186 c187), (.slice p188 n189 c190), (.int .i64 (IntKind.wrap .i64 (x124 + (1 : Int))))] w126))
 (fun J127 => (lv x124 fun p_128 => 
(jn (fun s129 w130 => asB (s129.getD 0 undef) fun b136 => (cond b136 (nw w130 (.cells #[(.int .i64 p_128)] 3) fun r137 w138 => (rn Tryd.prog (Builtin.append_ #[23, 23] 23 #[(.slice p118 n119 c120), (.slice (some (⟨r137, 0, none⟩ : Addr)) 1 1)]) w138 fun v139 w140 => asS v139 fun p141 n142 c143 => (J127 [(.slice p141 n142 c143), (.slice p121 n122 c123)] w140))) (dw w130 fun w144 => (bnd p_128 64 (ld w144 (Addr.add (⟨r111, 0, none⟩ : Addr) (Int.toNat p_128 * 8)) fun v145 => asI .i64 v145 fun x146 => (ld w144 (Addr.add (Addr.add (⟨r111, 0, none⟩ : Addr) (Int.toNat p_128 * 8)) 1) fun v147 => asI .i64 v147 fun x148 => (ld w144 (Addr.add (Addr.add (⟨r111, 0, none⟩ : Addr) (Int.toNat p_128 * 8)) 2) fun v149 => asI .i64 v149 fun x150 => (ld w144 (Addr.add (Addr.add (⟨r111, 0, none⟩ : Addr) (Int.toNat p_128 * 8)) 3) fun v151 => asI .i64 v151 fun x152 => (ld w144 (Addr.add (Addr.add (⟨r111, 0, none⟩ : Addr) (Int.toNat p_128 * 8)) 4) fun v153 => asI .i64 v153 fun x154 => (ld w144 (Addr.add (Addr.add (⟨r111, 0, none⟩ : Addr) (Int.toNat p_128 * 8)) 5) fun v155 => asI .i64 v155 fun x156 => (ld w144 (Addr.add (Addr.add (⟨r111, 0, none⟩ : Addr) (Int.toNat p_128 * 8)) 6) fun v157 => asI .i64 v157 fun x158 => (ld w144 (Addr.add (Addr.add (⟨r111, 0, none⟩ : Addr) (Int.toNat p_128 * 8)) 7) fun v159 => asI .i64 v159 fun x160 => (bnd p_128 64 (ld w144 (Addr.add (⟨r109, 0, none⟩ : Addr) (Int.toNat p_128 * 8)) fun v161 => asI .i64 v161 fun x162 => (ld w144 (Addr.add (Addr.add (⟨r109, 0, none⟩ : Addr) (Int.toNat p_128 * 8)) 1) fun v163 => asI .i64 v163 fun x164 => (ld w144 (Addr.add (Addr.add (⟨r109, 0, none⟩ : Addr) (Int.toNat p_128 * 8)) 2) fun v165 => asI .i64 v165 fun x166 => (ld w144 (Addr.add (Addr.add (⟨r109, 0, none⟩ : Addr) (Int.toNat p_128 * 8)) 3) fun v167 => asI .i64 v167 fun x168 => (ld w144 (Addr.add (Addr.add (⟨r109, 0, none⟩ : Addr) (Int.toNat p_128 * 8)) 4) fun v169 => asI .i64 v169 fun x170 => (ld w144 (Addr.add (Addr.add (⟨r109, 0, none⟩ : Addr) (Int.toNat p_128 * 8)) 5) fun v171 => asI .i64 v171 fun x172 => (ld w144 (Addr.add (Addr.add (⟨r109, 0, none⟩ : Addr) (Int.toNat p_128 * 8)) 6) fun v173 => asI .i64 v173 fun x174 => (ld w144 (Addr.add (Addr.add (⟨r109, 0, none⟩ : Addr) (Int.toNat p_128 * 8)) 7) fun v175 => asI .i64 v175 fun x176 => (eqW Tryd.prog 59 (.agg #[(.int .i64 x146), (.int .i64 x148), (.int .i64 x150), (.int .i64 x152), (.int .i64 x154), (.int .i64 x156), (.int .i64 x158), (.int .i64 x160)]) (.agg #[(.int .i64 x162), (.int .i64 x164), (.int .i64 x166), (.int .i64 x168), (.int .i64 x170), (.int .i64 x172), (.int .i64 x174), (.int .i64 x176)]) fun b177 => 
(cond (!b177) (nw w144 (.cells #[(.int .i64 p_128)] 3) fun r178 w179 => (rn Tryd.prog (Builtin.append_ #[23, 23] 23 #[(.slice p121 n122 c123), (.slice (some (⟨r178, 0, none⟩ : Addr)) 1 1)]) w179 fun v180 w181 => asS v180 fun p182 n183 c184 => (J127 [(.slice p118 n119 c120), (.slice p182 n183 c184)] w181))) (J127 [(.slice p118 n119 c120), (.slice p121 n122 c123)] w144))))))))))))))))))))))))
 (fun J131 => (bnd p_128 64 (ld w116 (Addr.add (⟨r111, 0, none⟩ : Addr) (Int.toNat p_128 * 8)) fun v132 => asI .i64 v132 fun x133 => (cond (x133 == (0 : Int)) (bnd p_128 64 (ld w116 (Addr.add (⟨r109, 0, none⟩ : Addr) (Int.toNat p_128 * 8)) fun v134 => asI .i64 v134 fun x135 => (J131 [(.bool (x135 != (0 : Int)))] w116))) (J131 [(.bool false)] w116))))))))) (Q p118 n119 c120 p121 n122 c123 w116))) := by
  refine lp_mk (fun t : (Option Addr × Nat) × (Option Addr × Nat) × Nat => [.slice t.1.1 (goneL T0 T t.2.2).length t.1.2, .slice t.2.1.1 (othL T0 T t.2.2).length t.2.1.2, .int .i64 (t.2.2 : Int)])
    (fun z t w' => z = 64 - t.2.2 ∧ t.2.2 ≤ 64 ∧ Ext no w w' ∧ Row w' w.heap.size 3 t.1.1 t.1.2 (iv .i64 (nI (goneL T0 T t.2.2))) ∧ Row w' w.heap.size 3 t.2.1.1 t.2.1.2 (iv .i64 (nI (othL T0 T t.2.2))) ∧ Apart t.1.1 t.2.1.1) 64 ((none, 0), (none, 0), 0) rfl
    ⟨rfl, Nat.zero_le _, Ext.refl _ _, Row.nil _ _ _, Row.nil _ _ _, Apart.none _⟩ ?_
  rintro _ ⟨⟨p, c⟩, ⟨p', c'⟩, k⟩ w1 ⟨rfl, hk, hx, hg, ho, hap⟩ J hJ
  simp only at hk hx hg ho hap hJ ⊢
  refine asS_i rfl (asS_i rfl (asI_i rfl (cond_split (fun hc => ?_) (fun hc => ?_))))
  · have hk64 : k < 64 := by
      have := of_decide_eq_true hc
      omega
    have g0 := tget l0 hk64
    have g1 := tget l1 hk64
    have I0 := i0 _ (tmem l0 hk64)
    have I1 := i1 _ (tmem l1 hk64)
    have hgl := goneL_len T0 T k
    have hol := othL_len T0 T k
    have b0 := hx.blk hb0 (fun h => h)
    have b1 := hx.blk hb1 (fun h => h)
    have ek : IntKind.wrap .i64 ((k : Int) + 1) = ((k + 1 : Nat) : Int) := by rw [wr64 (by omega) (by omega)]; omega
    refine jn_of (fun s w' => ∃ q d q' d', s = [.slice q (goneL T0 T (k + 1)).length d, .slice q' (othL T0 T (k + 1)).length d'] ∧ Ext no w w' ∧ Row w' w.heap.size 3 q d (iv .i64 (nI (goneL T0 T (k + 1)))) ∧ Row w' w.heap.size 3 q' d' (iv .i64 (nI (othL T0 T (k + 1)))) ∧ Apart q q') ?_ ?_
    · rintro _ w2 ⟨q, d, q', d', rfl, h1, h2, h3, h4⟩
      refine asS_i rfl (asS_i rfl ?_)
      rw [ek]
      exact hJ (64 - (k + 1)) ((q, d), (q', d'), k + 1) w2 (by omega) ⟨rfl, by simp only; omega, h1, h2, h3, h4⟩
    intro J2 hJ2
    refine lv_i (jn_of (fun s w' => s = [.bool (goneB T0 T k)] ∧ w' = w1) ?_ ?_)
    · rintro _ w1 ⟨rfl, rfl⟩
      refine asB_i rfl (cond_split (fun hgone => ?_) (fun hgone => ?_))
      · have e1 : goneL T0 T (k + 1) = goneL T0 T k ++ [k] := by rw [goneL_succ, if_pos hgone]
        have e2 : othL T0 T (k + 1) = othL T0 T k := by rw [othL_succ, if_neg (by simp [othB, hgone]), List.append_nil]
        refine sI.app1 hg (by rw [iv_length, nI_len]) hx.size rfl (le_maxLen (by omega)) (by omega) ?_
        intro q d w2 hrow hE hm
        have hx2 : Ext no w w2 := hx.then hE fun i hi ⟨a, ha, hab⟩ => by
          have := (hg.at ha).1
          omega
        refine asS_i rfl (hJ2 _ _ ⟨q, d, p', c', by rw [e1, e2, List.length_append]; rfl, hx2, ?_, ?_, ?_⟩)
        · rw [e1, nI_app, iv_app]; exact hrow
        · rw [e2]; exact ho.keep hE hap.symm
        · exact hm.apart hap fun a ha => (ho.at ha).2
      · refine dw_mk (bnd_mk (by omega) (by omega) ?_)
        rw [Int.toNat_natCast]
        refine ld8c (bcell (w := w1.drew) b1 g1) ?_
        refine bnd_mk (by omega) (by omega) ?_
        refine ld8c (bcell (w := w1.drew) b0 g0) ?_
        refine eqEnt2 I1 I0 ?_
        have e1 : goneL T0 T (k + 1) = goneL T0 T k := by rw [goneL_succ, if_neg (by simp [hgone]), List.append_nil]
        refine cond_split (fun hne => ?_) (fun heq => ?_)
        · have e2 : othL T0 T (k + 1) = othL T0 T k ++ [k] := by rw [othL_succ, if_pos (by simp only [othB, hgone]; simpa using hne)]
          have hxd : Ext no w w1.drew := hx.trans (Ext.drew w1)
          have ho' : Row w1.drew w.heap.size 3 p' c' (iv .i64 (nI (othL T0 T k))) := ho.ext (Ext.drew w1) fun _ _ h => h
          refine sI.app1 ho' (by rw [iv_length, nI_len]) hxd.size rfl (le_maxLen (by omega)) (by omega) ?_
          intro q d w2 hrow hE hm
          have hx2 : Ext no w w2 := hxd.then hE fun i hi ⟨a, ha, hab⟩ => by
            have := (ho.at ha).1
            omega
          refine asS_i rfl (hJ2 _ _ ⟨p, c, q, d, by rw [e1, e2, List.length_append]; rfl, hx2, ?_, ?_, ?_⟩)
          · rw [e1]; exact (hg.ext (Ext.drew w1) fun _ _ h => h).keep hE hap
          · rw [e2, nI_app, iv_app]; exact hrow
          · exact (Moved.apart hm hap.symm fun a ha => (hg.at ha).2).symm
        · have e2 : othL T0 T (k + 1) = othL T0 T k := by
            rw [othL_succ, if_neg, List.append_nil]
            simp only [othB, hgone]
            simpa using heq
          refine hJ2 _ _ ⟨p, c, p', c', by rw [e1, e2], hx.trans (Ext.drew w1), ?_, ?_, hap⟩
          · rw [e1]; exact hg.ext (Ext.drew w1) fun _ _ h => h
          · rw [e2]; exact ho.ext (Ext.drew w1) fun _ _ h => h
    intro J3 hJ3
    refine bnd_mk (by omega) (by omega) ?_
    rw [Int.toNat_natCast]
    refine ld_mk (bcell0 b1 g1) (asI_i rfl (cond_split (fun hz => bnd_mk (by omega) (by omega) (ld_mk (bcell0 b0 g0) (asI_i rfl (hJ3 _ _ ⟨?_, rfl⟩)))) (fun hz => hJ3 _ _ ⟨?_, rfl⟩)))
    · unfold goneB; rw [hz, Bool.true_and]
    · unfold goneB; rw [hz, Bool.false_and]
  · have hk64 : k = 64 := by
      have := of_decide_eq_false hc
      omega
    subst hk64
    exact hQ p c p' c' w1 hx hg ho
end Go.Proofs.YtfnepdppkmjboaaDoor

/- SnO: what Sender.Make writes of a view. Conditions: those of each theorem, on its arguments. -/
namespace Go.Proofs.YtfnepdppkmjboaaDoor
open Go Go.Sx Go.Fp
attribute [local irreducible] jn lv ld st nw asI asB asP asS asY asM asF asA asT lp rn ru rq cl dw dr bnd bn2 nz nn hd hr so eqW
attribute [local irreducible] callOk

theorem flat_le {α : Type} {f : α → List Bool} {c : Nat} : ∀ {l : List α}, (∀ x ∈ l, (f x).length ≤ c) → (l.flatMap f).length ≤ c * l.length
  | [], _ => by simp
  | x :: l, h => by
    have h1 := h x List.mem_cons_self
    have h2 := flat_le (f := f) (c := c) (l := l) fun y hy => h y (List.mem_cons_of_mem _ hy)
    rw [List.flatMap_cons, List.length_append, List.length_cons, Nat.mul_succ]
    omega
theorem entB_len {T0 T : List Ent} {p : Nat} : (entB T0 T p).length ≤ 472 := by
  unfold entB
  rw [List.length_append, numBits_length]
  split
  · have := wB_len (e := T.getD p Ent.zero) (m := 63)
    simp only [List.length_append, numBits_length]; omega
  · have := wB_len (e := T.getD p Ent.zero) (m := maskN (T.getD p Ent.zero) (T0.getD p Ent.zero))
    simp only [List.length_append, numBits_length]; omega
theorem nI_at {l : List Nat} {j p : Nat} (h : l[j]? = some p) : (iv .i64 (nI l))[(j : Int).toNat]? = some (.int .i64 (p : Int)) := by
  rw [Int.toNat_natCast]
  simp [iv, nI, h]

set_option maxHeartbeats 3200000 in
theorem puts_k {w00 : World} (hp : Pts w00) {B : Nat → Prop} {w : World} {r : Nat} {l : List Bool} (hS : Bn w00 B w w [] (WJ r l)) {r109 r111 : Nat} {T0 T : List Ent}
    (hb0 : w.heap[r109]? = some (.cells (T0.flatMap Ent.cells).toArray 75 (0, 0))) (hb1 : w.heap[r111]? = some (.cells (T.flatMap Ent.cells).toArray 75 (0, 0))) (l0 : T0.length = 64) (l1 : T.length = 64) (a0 : ¬ B r109) (a1 : ¬ B r111)
    {p118 p121 : Option Addr} (hg : Reads w p118 (iv .i64 (nI (goneL T0 T 64)))) (ha : ∀ a, p118 = some a → ¬ B a.block) (ho : Reads w p121 (iv .i64 (nI (othL T0 T 64)))) (ha' : ∀ a, p121 = some a → ¬ B a.block)
    (hE : ∀ p ∈ othL T0 T 64, (T.getD p Ent.zero).fit ∧ (T.getD p Ent.zero).I ∧ 0 ≤ (T.getD p Ent.zero).h ∧ Int.tdiv (T.getD p Ent.zero).h 64 ≤ 1099511627776) (hl : l.length ≤ 200) {Q : World → Prop}
    (hQ : ∀ w', Bn w00 B w w' [] (WJ r (l ++ bodyB T0 T)) → Q w') :
    (cl Tryd.prog 26 #[(.pointer (some ⟨r, 0, none⟩)), (.int .i64 ((goneL T0 T 64).length : Int)), (.int .i64 (7 : Int))] w fun v191 w192 => asI .i64 v191 fun x193 => 

(lp [(.int .i64 (0 : Int))] w192 fun J196 s194 w195 => asI .i64 (s194.getD 0 undef) fun x197 => 
(cond (decide (x197 < ((goneL T0 T 64).length : Int))) 
(dr p118 fun a198 => (bnd x197 (goneL T0 T 64).length (ld w195 (Addr.add a198 (Int.toNat x197 * 1)) fun v199 => asI .i64 v199 fun x200 => (lv x200 fun p_201 => 
(cl Tryd.prog 26 #[(.pointer (some ⟨r, 0, none⟩)), (.int .i64 p_201), (.int .i64 (6 : Int))] w195 fun v202 w203 => asI .i64 v202 fun x204 => 
(J196 [(.int .i64 (IntKind.wrap .i64 (x197 + (1 : Int))))] w203)))))) 
(cl Tryd.prog 26 #[(.pointer (some ⟨r, 0, none⟩)), (.int .i64 ((othL T0 T 64).length : Int)), (.int .i64 (7 : Int))] w195 fun v205 w206 => asI .i64 v205 fun x207 => 

(lp [(.int .i64 (0 : Int))] w206 fun J210 s208 w209 => asI .i64 (s208.getD 0 undef) fun x211 => 
(cond (decide (x211 < ((othL T0 T 64).length : Int))) 
(jn (fun s212 w213 => (J210 [(.int .i64 (IntKind.wrap .i64 (x211 + (1 : Int))))] w213))
 (fun J214 => (dr p121 fun a215 => (bnd x211 (othL T0 T 64).length (ld w209 (Addr.add a215 (Int.toNat x211 * 1)) fun v216 => asI .i64 v216 fun x217 => (lv x217 fun p_218 => 
(cl Tryd.prog 26 #[(.pointer (some ⟨r, 0, none⟩)), (.int .i64 p_218), (.int .i64 (6 : Int))] w209 fun v219 w220 => asI .i64 v219 fun x221 => 
(bnd p_218 64 (ld w220 (Addr.add (⟨r111, 0, none⟩ : Addr) (Int.toNat p_218 * 8)) fun v222 => asI .i64 v222 fun x223 => (ld w220 (Addr.add (Addr.add (⟨r111, 0, none⟩ : Addr) (Int.toNat p_218 * 8)) 1) fun v224 => asI .i64 v224 fun x225 => (ld w220 (Addr.add (Addr.add (⟨r111, 0, none⟩ : Addr) (Int.toNat p_218 * 8)) 2) fun v226 => asI .i64 v226 fun x227 => (ld w220 (Addr.add (Addr.add (⟨r111, 0, none⟩ : Addr) (Int.toNat p_218 * 8)) 3) fun v228 => asI .i64 v228 fun x229 => (ld w220 (Addr.add (Addr.add (⟨r111, 0, none⟩ : Addr) (Int.toNat p_218 * 8)) 4) fun v230 => asI .i64 v230 fun x231 => (ld w220 (Addr.add (Addr.add (⟨r111, 0, none⟩ : Addr) (Int.toNat p_218 * 8)) 5) fun v232 => asI .i64 v232 fun x233 => (ld w220 (Addr.add (Addr.add (⟨r111, 0, none⟩ : Addr) (Int.toNat p_218 * 8)) 6) fun v234 => asI .i64 v234 fun x235 => (ld w220 (Addr.add (Addr.add (⟨r111, 0, none⟩ : Addr) (Int.toNat p_218 * 8)) 7) fun v236 => asI .i64 v236 fun x237 => (nw w220 (.cells #[(.int .i64 (0 : Int)), (.int .i64 (0 : Int)), (.int .i64 (0 : Int)), (.int .i64 (0 : Int)), (.int .i64 (0 : Int)), (.int .i64 (0 : Int)), (.int .i64 (0 : Int)), (.int .i64 (0 : Int))] 59) fun r238 w239 => (st w239 (⟨r238, 0, none⟩ : Addr) (.int .i64 x223) fun w240 => (st w240 (Addr.add (⟨r238, 0, none⟩ : Addr) 1) (.int .i64 x225) fun w241 => (st w241 (Addr.add (⟨r238, 0, none⟩ : Addr) 2) (.int .i64 x227) fun w242 => (st w242 (Addr.add (⟨r238, 0, none⟩ : Addr) 3) (.int .i64 x229) fun w243 => (st w243 (Addr.add (⟨r238, 0, none⟩ : Addr) 4) (.int .i64 x231) fun w244 => (st w244 (Addr.add (⟨r238, 0, none⟩ : Addr) 5) (.int .i64 x233) fun w245 => (st w245 (Addr.add (⟨r238, 0, none⟩ : Addr) 6) (.int .i64 x235) fun w246 => (st w246 (Addr.add (⟨r238, 0, none⟩ : Addr) 7) (.int .i64 x237) fun w247 => 
(dw w247 fun w248 => (ld w248 (⟨r238, 0, none⟩ : Addr) fun v249 => asI .i64 v249 fun x250 => (bnd p_218 64 (ld w248 (Addr.add (⟨r109, 0, none⟩ : Addr) (Int.toNat p_218 * 8)) fun v251 => asI .i64 v251 fun x252 => 
(cond (x250 != x252) (cl Tryd.prog 26 #[(.pointer (some ⟨r, 0, none⟩)), (.int .i64 (1 : Int)), (.int .i64 (1 : Int))] w248 fun v253 w254 => asI .i64 v253 fun x255 => 
(ld w254 (⟨r238, 0, none⟩ : Addr) fun v256 => asI .i64 v256 fun x257 => (cl Tryd.prog 26 #[(.pointer (some ⟨r, 0, none⟩)), (.int .i64 (IntKind.wrap .i64 (Int.tdiv x257 (64 : Int)))), (.int .i64 (41 : Int))] w254 fun v258 w259 => asI .i64 v258 fun x260 => 
(ld w259 (⟨r238, 0, none⟩ : Addr) fun v261 => asI .i64 v261 fun x262 => (ld w259 (Addr.add (⟨r238, 0, none⟩ : Addr) 1) fun v263 => asI .i64 v263 fun x264 => (ld w259 (Addr.add (⟨r238, 0, none⟩ : Addr) 2) fun v265 => asI .i64 v265 fun x266 => (ld w259 (Addr.add (⟨r238, 0, none⟩ : Addr) 3) fun v267 => asI .i64 v267 fun x268 => (ld w259 (Addr.add (⟨r238, 0, none⟩ : Addr) 4) fun v269 => asI .i64 v269 fun x270 => (ld w259 (Addr.add (⟨r238, 0, none⟩ : Addr) 5) fun v271 => asI .i64 v271 fun x272 => (ld w259 (Addr.add (⟨r238, 0, none⟩ : Addr) 6) fun v273 => asI .i64 v273 fun x274 => (ld w259 (Addr.add (⟨r238, 0, none⟩ : Addr) 7) fun v275 => asI .i64 v275 fun x276 => (cl Tryd.prog 29 #[(.pointer (some ⟨r, 0, none⟩)), (.agg #[(.int .i64 x262), (.int .i64 x264), (.int .i64 x266), (.int .i64 x268), (.int .i64 x270), (.int .i64 x272), (.int .i64 x274), (.int .i64 x276)]), (.int .i64 (63 : Int))] w259 fun v277 w278 => (J214 [] w278))))))))))))) (cl Tryd.prog 26 #[(.pointer (some ⟨r, 0, none⟩)), (.int .i64 (0 : Int)), (.int .i64 (1 : Int))] w248 fun v279 w280 => asI .i64 v279 fun x281 => 
(dw w280 fun w282 => (ld w282 (⟨r238, 0, none⟩ : Addr) fun v283 => asI .i64 v283 fun x284 => (ld w282 (Addr.add (⟨r238, 0, none⟩ : Addr) 1) fun v285 => asI .i64 v285 fun x286 => (ld w282 (Addr.add (⟨r238, 0, none⟩ : Addr) 2) fun v287 => asI .i64 v287 fun x288 => (ld w282 (Addr.add (⟨r238, 0, none⟩ : Addr) 3) fun v289 => asI .i64 v289 fun x290 => (ld w282 (Addr.add (⟨r238, 0, none⟩ : Addr) 4) fun v291 => asI .i64 v291 fun x292 => (ld w282 (Addr.add (⟨r238, 0, none⟩ : Addr) 5) fun v293 => asI .i64 v293 fun x294 => (ld w282 (Addr.add (⟨r238, 0, none⟩ : Addr) 6) fun v295 => asI .i64 v295 fun x296 => (ld w282 (Addr.add (⟨r238, 0, none⟩ : Addr) 7) fun v297 => asI .i64 v297 fun x298 => (bnd p_218 64 (ld w282 (Addr.add (⟨r109, 0, none⟩ : Addr) (Int.toNat p_218 * 8)) fun v299 => asI .i64 v299 fun x300 => (ld w282 (Addr.add (Addr.add (⟨r109, 0, none⟩ : Addr) (Int.toNat p_218 * 8)) 1) fun v301 => asI .i64 v301 fun x302 => (ld w282 (Addr.add (Addr.add (⟨r109, 0, none⟩ : Addr) (Int.toNat p_218 * 8)) 2) fun v303 => asI .i64 v303 fun x304 => (ld w282 (Addr.add (Addr.add (⟨r109, 0, none⟩ : Addr) (Int.toNat p_218 * 8)) 3) fun v305 => asI .i64 v305 fun x306 => (ld w282 (Addr.add (Addr.add (⟨r109, 0, none⟩ : Addr) (Int.toNat p_218 * 8)) 4) fun v307 => asI .i64 v307 fun x308 => (ld w282 (Addr.add (Addr.add (⟨r109, 0, none⟩ : Addr) (Int.toNat p_218 * 8)) 5) fun v309 => asI .i64 v309 fun x310 => (ld w282 (Addr.add (Addr.add (⟨r109, 0, none⟩ : Addr) (Int.toNat p_218 * 8)) 6) fun v311 => asI .i64 v311 fun x312 => (ld w282 (Addr.add (Addr.add (⟨r109, 0, none⟩ : Addr) (Int.toNat p_218 * 8)) 7) fun v313 => asI .i64 v313 fun x314 => (cl Tryd.prog 30 #[(.agg #[(.int .i64 x284), (.int .i64 x286), (.int .i64 x288), (.int .i64 x290), (.int .i64 x292), (.int .i64 x294), (.int .i64 x296), (.int .i64 x298)]), (.agg #[(.int .i64 x300), (.int .i64 x302), (.int .i64 x304), (.int .i64 x306), (.int .i64 x308), (.int .i64 x310), (.int .i64 x312), (.int .i64 x314)])] w282 fun v315 w316 => asI .i64 v315 fun x317 => (cl Tryd.prog 26 #[(.pointer (some ⟨r, 0, none⟩)), (.int .i64 x317), (.int .i64 (6 : Int))] w316 fun v318 w319 => asI .i64 v318 fun x320 => 
(dw w319 fun w321 => (ld w321 (⟨r238, 0, none⟩ : Addr) fun v322 => asI .i64 v322 fun x323 => (ld w321 (Addr.add (⟨r238, 0, none⟩ : Addr) 1) fun v324 => asI .i64 v324 fun x325 => (ld w321 (Addr.add (⟨r238, 0, none⟩ : Addr) 2) fun v326 => asI .i64 v326 fun x327 => (ld w321 (Addr.add (⟨r238, 0, none⟩ : Addr) 3) fun v328 => asI .i64 v328 fun x329 => (ld w321 (Addr.add (⟨r238, 0, none⟩ : Addr) 4) fun v330 => asI .i64 v330 fun x331 => (ld w321 (Addr.add (⟨r238, 0, none⟩ : Addr) 5) fun v332 => asI .i64 v332 fun x333 => (ld w321 (Addr.add (⟨r238, 0, none⟩ : Addr) 6) fun v334 => asI .i64 v334 fun x335 => (ld w321 (Addr.add (⟨r238, 0, none⟩ : Addr) 7) fun v336 => asI .i64 v336 fun x337 => (ld w321 (⟨r238, 0, none⟩ : Addr) fun v338 => asI .i64 v338 fun x339 => (ld w321 (Addr.add (⟨r238, 0, none⟩ : Addr) 1) fun v340 => asI .i64 v340 fun x341 => (ld w321 (Addr.add (⟨r238, 0, none⟩ : Addr) 2) fun v342 => asI .i64 v342 fun x343 => (ld w321 (Addr.add (⟨r238, 0, none⟩ : Addr) 3) fun v344 => asI .i64 v344 fun x345 => (ld w321 (Addr.add (⟨r238, 0, none⟩ : Addr) 4) fun v346 => asI .i64 v346 fun x347 => (ld w321 (Addr.add (⟨r238, 0, none⟩ : Addr) 5) fun v348 => asI .i64 v348 fun x349 => (ld w321 (Addr.add (⟨r238, 0, none⟩ : Addr) 6) fun v350 => asI .i64 v350 fun x351 => (ld w321 (Addr.add (⟨r238, 0, none⟩ : Addr) 7) fun v352 => asI .i64 v352 fun x353 => (bnd p_218 64 (ld w321 (Addr.add (⟨r109, 0, none⟩ : Addr) (Int.toNat p_218 * 8)) fun v354 => asI .i64 v354 fun x355 => (ld w321 (Addr.add (Addr.add (⟨r109, 0, none⟩ : Addr) (Int.toNat p_218 * 8)) 1) fun v356 => asI .i64 v356 fun x357 => (ld w321 (Addr.add (Addr.add (⟨r109, 0, none⟩ : Addr) (Int.toNat p_218 * 8)) 2) fun v358 => asI .i64 v358 fun x359 => (ld w321 (Addr.add (Addr.add (⟨r109, 0, none⟩ : Addr) (Int.toNat p_218 * 8)) 3) fun v360 => asI .i64 v360 fun x361 => (ld w321 (Addr.add (Addr.add (⟨r109, 0, none⟩ : Addr) (Int.toNat p_218 * 8)) 4) fun v362 => asI .i64 v362 fun x363 => (ld w321 (Addr.add (Addr.add (⟨r109, 0, none⟩ : Addr) (Int.toNat p_218 * 8)) 5) fun v364 => asI .i64 v364 fun x365 => (ld w321 (Addr.add (Addr.add (⟨r109, 0, none⟩ : Addr) (Int.toNat p_218 * 8)) 6) fun v366 => asI .i64 v366 fun x367 => (ld w321 (Addr.add (Addr.add (⟨r109, 0, none⟩ : Addr) (Int.toNat p_218 * 8)) 7) fun v368 => asI .i64 v368 fun x369 => (cl Tryd.prog 30 #[(.agg #[(.int .i64 x339), (.int .i64 x341), (.int .i64 x343), (.int .i64 x345), (.int .i64 x347), (.int .i64 x349), (.int .i64 x351), (.int .i64 x353)]), (.agg #[(.int .i64 x355), (.int .i64 x357), (.int .i64 x359), (.int .i64 x361), (.int .i64 x363), (.int .i64 x365), (.int .i64 x367), (.int .i64 x369)])] w321 fun v370 w371 => asI .i64 v370 fun x372 => (hd w371 (⟨r238, 0, none⟩ : Addr) (.int .i64 x323) (hd w371 (Addr.add (⟨r238, 0, none⟩ : Addr) 1) (.int .i64 x325) (hd w371 (Addr.add (⟨r238, 0, none⟩ : Addr) 2) (.int .i64 x327) (hd w371 (Addr.add (⟨r238, 0, none⟩ : Addr) 3) (.int .i64 x329) (hd w371 (Addr.add (⟨r238, 0, none⟩ : Addr) 4) (.int .i64 x331) (hd w371 (Addr.add (⟨r238, 0, none⟩ : Addr) 5) (.int .i64 x333) (hd w371 (Addr.add (⟨r238, 0, none⟩ : Addr) 6) (.int .i64 x335) (hd w371 (Addr.add (⟨r238, 0, none⟩ : Addr) 7) (.int .i64 x337) (cl Tryd.prog 29 #[(.pointer (some ⟨r, 0, none⟩)), (.agg #[(.int .i64 x323), (.int .i64 x325), (.int .i64 x327), (.int .i64 x329), (.int .i64 x331), (.int .i64 x333), (.int .i64 x335), (.int .i64 x337)]), (.int .i64 x372)] w371 fun v373 w374 => (J214 [] w374)))))))))))))))))))))))))))))))))))))))))))))))))))))))))))))))))))))))))))))))))))))))) (Q w209))))))) := by
  have hgl := goneL_len T0 T 64
  have hol := othL_len T0 T 64
  refine hS.put (n := 7) (by omega) (by rw [Int.toNat_natCast]; exact Nat.lt_of_le_of_lt hgl (by decide)) (by decide) (by omega) fun w1 hS => asI_i rfl ?_
  rw [Int.toNat_natCast] at hS
  generalize hl1 : l ++ numBits (goneL T0 T 64).length 7 = l1' at hS
  have hlen1 : l1'.length ≤ 207 := by rw [← hl1, List.length_append, numBits_length]; omega
  refine lp_mk (fun j : Nat => [.int .i64 (j : Int)]) (fun z j w' => z = (goneL T0 T 64).length - j ∧ j ≤ (goneL T0 T 64).length ∧ Bn w00 B w w' [] (WJ r (l1' ++ ((goneL T0 T 64).take j).flatMap fun p => numBits p 6))) (goneL T0 T 64).length 0 rfl ⟨rfl, Nat.zero_le _, by simpa using hS⟩ ?_
  clear hS
  rintro _ j w2 ⟨rfl, hj, hS⟩ J hJ
  have hfl : (((goneL T0 T 64).take j).flatMap fun p => numBits p 6).length ≤ 6 * 64 := by
    have h1 := flat_le (f := fun p => numBits p 6) (c := 6) (l := (goneL T0 T 64).take j) fun x _ => by simp [numBits_length]
    have h2 : ((goneL T0 T 64).take j).length ≤ 64 := by rw [List.length_take]; omega
    omega
  refine asI_i rfl (cond_split (fun hc => ?_) (fun hc => ?_))
  · have hjl : j < (goneL T0 T 64).length := by
      have := of_decide_eq_true hc
      omega
    have hget : (goneL T0 T 64)[j]? = some (goneL T0 T 64)[j] := List.getElem?_eq_getElem hjl
    have hlt := goneL_lt (List.getElem_mem hjl)
    generalize (goneL T0 T 64)[j] = p at hget hlt
    refine (hg.ext hS.ext fun a h => ha a h).at (by omega) (nI_at hget) ?_ (by rw [iv_length, nI_len]; exact Nat.le_refl _)
    refine asI_i rfl (lv_i ?_)
    refine hS.put (n := 6) (by omega) (by rw [Int.toNat_natCast]; exact hlt) (by decide) (by simp only [List.length_append]; omega) fun w3 hS => asI_i rfl ?_
    rw [Int.toNat_natCast] at hS
    have ej : IntKind.wrap .i64 ((j : Int) + 1) = ((j + 1 : Nat) : Int) := by rw [wr64 (by omega) (by omega)]; omega
    rw [ej]
    refine hJ ((goneL T0 T 64).length - (j + 1)) (j + 1) _ (by omega) ⟨rfl, by omega, ?_⟩
    have et : ((goneL T0 T 64).take (j + 1)).flatMap (fun p => numBits p 6) = ((goneL T0 T 64).take j).flatMap (fun p => numBits p 6) ++ numBits p 6 := by rw [List.take_add_one, hget, List.flatMap_append]; simp
    rw [et, ← List.append_assoc]
    exact hS
  have hjl : j = (goneL T0 T 64).length := by
    have := of_decide_eq_false hc
    omega
  subst hjl
  rw [List.take_length] at hS hfl
  clear hJ J hc hj
  refine hS.put (n := 7) (by omega) (by rw [Int.toNat_natCast]; exact Nat.lt_of_le_of_lt hol (by decide)) (by decide) (by simp only [List.length_append]; omega) fun w3 hS => asI_i rfl ?_
  rw [Int.toNat_natCast] at hS
  generalize hl2 : l1' ++ (goneL T0 T 64).flatMap (fun p => numBits p 6) ++ numBits (othL T0 T 64).length 7 = l2' at hS
  have hlen2 : l2'.length ≤ 600 := by rw [← hl2]; simp only [List.length_append, numBits_length]; omega
  refine lp_mk (fun j : Nat => [.int .i64 (j : Int)]) (fun z j w' => z = (othL T0 T 64).length - j ∧ j ≤ (othL T0 T 64).length ∧ Bn w00 B w w' [] (WJ r (l2' ++ ((othL T0 T 64).take j).flatMap (entB T0 T)))) (othL T0 T 64).length 0 rfl ⟨rfl, Nat.zero_le _, by simpa using hS⟩ ?_
  clear hS
  rintro _ j w4 ⟨rfl, hj, hS⟩ J hJ
  have hfl2 : (((othL T0 T 64).take j).flatMap (entB T0 T)).length ≤ 472 * 64 := by
    have h1 := flat_le (f := entB T0 T) (c := 472) (l := (othL T0 T 64).take j) fun x _ => entB_len
    have h2 : ((othL T0 T 64).take j).length ≤ 64 := by rw [List.length_take]; omega
    omega
  refine asI_i rfl (cond_split (fun hc => ?_) (fun hc => ?_))
  · have hjl : j < (othL T0 T 64).length := by
      have := of_decide_eq_true hc
      omega
    have hget : (othL T0 T 64)[j]? = some (othL T0 T 64)[j] := List.getElem?_eq_getElem hjl
    have hlt := othL_lt (List.getElem_mem hjl)
    have hEp := hE _ (List.getElem_mem hjl)
    generalize (othL T0 T 64)[j] = p at hget hlt hEp
    have g0 := tget l0 hlt
    have g1 := tget l1 hlt
    have hent : entB T0 T p = entB T0 T p := rfl
    conv at hent => rhs; unfold entB
    generalize he : T.getD p Ent.zero = e at g1 hEp hent
    generalize hf : T0.getD p Ent.zero = f at g0 hent
    refine jn_of (fun s w' => s = [] ∧ Bn w00 B w w' [] (WJ r (l2' ++ ((othL T0 T 64).take j).flatMap (entB T0 T) ++ entB T0 T p))) ?_ ?_
    · rintro _ w5 ⟨rfl, hS⟩
      have ej : IntKind.wrap .i64 ((j : Int) + 1) = ((j + 1 : Nat) : Int) := by rw [wr64 (by omega) (by omega)]; omega
      rw [ej]
      refine hJ ((othL T0 T 64).length - (j + 1)) (j + 1) _ (by omega) ⟨rfl, by omega, ?_⟩
      have et : ((othL T0 T 64).take (j + 1)).flatMap (entB T0 T) = ((othL T0 T 64).take j).flatMap (entB T0 T) ++ entB T0 T p := by rw [List.take_add_one, hget, List.flatMap_append]; simp
      rw [et, ← List.append_assoc]
      exact hS
    intro J2 hJ2
    generalize hl3 : l2' ++ ((othL T0 T 64).take j).flatMap (entB T0 T) = l3' at hS hJ2
    have hlen3 : l3'.length ≤ 31000 := by rw [← hl3]; simp only [List.length_append]; omega
    refine (ho.ext hS.ext fun a h => ha' a h).at (by omega) (nI_at hget) ?_ (by rw [iv_length, nI_len]; exact Nat.le_refl _)
    refine asI_i rfl (lv_i ?_)
    refine hS.put (n := 6) (by omega) (by rw [Int.toNat_natCast]; exact hlt) (by decide) (by omega) fun w5 hS => asI_i rfl ?_
    rw [Int.toNat_natCast] at hS
    refine bnd_mk (by omega) (by omega) ?_
    rw [Int.toNat_natCast]
    have b1 := hS.ext.blk hb1 a1
    refine ld8c (bcell b1 g1) ?_
    (refine hS.nw ?_; clear hS; intro r2 _ hS)
    refine Bn.put8 hS rfl e fun w6 hS => ?_
    refine hS.dw fun w7 hS _ => hS.ld0 0 rfl rfl (asI_i rfl (bnd_mk (by omega) (by omega) ?_))
    have b0 := hS.ext.blk hb0 a0
    refine ld_mk (bcell0 b0 g0) (asI_i rfl (cond_split (fun hne => ?_) (fun heq => ?_)))
    · have hne' : e.h ≠ f.h := by simpa using hne
      rw [if_pos hne'] at hent
      refine hS.put (n := 1) (by decide) (by decide) (by decide) (by simp only [List.length_append, numBits_length]; omega) fun w8 hS => asI_i rfl (hS.ld0 0 rfl rfl (asI_i rfl ?_))
      have hd : Int.tdiv e.h 64 = e.h / 64 := Int.tdiv_eq_ediv_of_nonneg hEp.2.2.1
      have hr1 : 0 ≤ Int.tdiv e.h 64 := by rw [hd]; omega
      rw [wr64 (n := Int.tdiv e.h 64) (by omega) (by omega)]
      have p41 : (2 : Nat) ^ 41 = 2199023255552 := by decide
      refine hS.put (n := 41) hr1 (by omega) (by decide) (by simp only [List.length_append, numBits_length]; omega) fun w9 hS => asI_i rfl ?_
      refine Bn8 hS 0 rfl ?_
      obtain ⟨B1, hb, hl⟩ := hS.lift
      refine write_b (m := 63) hp hb hEp.1 hEp.2.1.2.2.2.2.2.2.2 (by decide) (by simp only [List.length_append, numBits_length]; omega) fun w10 L' h' => hJ2 _ _ ⟨rfl, ?_⟩
      have h2 := (hl h').tail
      rw [hent]
      simp only [List.append_assoc] at h2 ⊢
      exact h2
    · have heq' : ¬ e.h ≠ f.h := by simpa using heq
      rw [if_neg heq'] at hent
      refine hS.put (n := 1) (by decide) (by decide) (by decide) (by simp only [List.length_append, numBits_length]; omega) fun w8 hS => asI_i rfl (hS.dw fun w9 hS _ => ?_)
      have b0 := hS.ext.blk hb0 a0
      refine Bn8 hS 0 rfl ?_
      refine bnd_mk (by omega) (by omega) ?_
      refine ld8c (bcell b0 g0) ?_
      refine mask_k hp hS.all (e := e) (f := f) fun w10 hx => asI_i rfl ?_
      have hS := hS.to hx
      have hmlt := maskN_lt e f
      refine hS.put (n := 6) (by omega) (by rw [Int.toNat_natCast]; exact hmlt) (by decide) (by simp only [List.length_append, numBits_length]; omega) fun w11 hS => asI_i rfl (hS.dw fun w12 hS _ => ?_)
      have b0 := hS.ext.blk hb0 a0
      refine Bn8 hS 0 rfl ?_
      refine Bn8 hS 0 rfl ?_
      refine bnd_mk (by omega) (by omega) ?_
      refine ld8c (bcell b0 g0) ?_
      refine mask_k hp hS.all (e := e) (f := f) fun w13 hx => asI_i rfl ?_
      have hS := hS.to hx
      refine hd8c (e := e) (fun k hk => ?_) ?_
      · rw [add_mk, Nat.zero_add]; exact Bn.cs hS 0 rfl k
      obtain ⟨B1, hb, hl⟩ := hS.lift
      refine write_b (m := maskN e f) hp hb hEp.1 hEp.2.1.2.2.2.2.2.2.2 hmlt (by simp only [List.length_append, numBits_length]; omega) fun w14 L' h' => hJ2 _ _ ⟨rfl, ?_⟩
      have h2 := (hl h').tail
      rw [hent]
      simp only [List.append_assoc, Int.toNat_natCast] at h2 ⊢
      exact h2
  · have hjl : j = (othL T0 T 64).length := by
      have := of_decide_eq_false hc
      omega
    subst hjl
    rw [List.take_length] at hS
    refine hQ _ ?_
    have e : l ++ bodyB T0 T = l2' ++ (othL T0 T 64).flatMap (entB T0 T) := by
      rw [← hl2, ← hl1]
      simp only [bodyB, List.append_assoc]
    rw [e]
    exact hS
end Go.Proofs.YtfnepdppkmjboaaDoor

/- SnP: Sender.Make. Conditions: those of each theorem, on its arguments. -/
namespace Go.Proofs.YtfnepdppkmjboaaDoor
open Go Go.Sx Go.Fp
attribute [local irreducible] jn lv ld st nw asI asB asP asS asY asM asF asA asT lp rn ru rq cl dw dr bnd bn2 nz nn hd hr so eqW
attribute [local irreducible] callOk

/-- the listed blocks hold xs at p -/
def HV (LL : List (Nat × List Value × TypeId)) (p : Option Addr) (xs : List Value) : Prop := ∀ w : World, (∀ b ∈ LL, w.heap[b.1]? = some (.cells b.2.1.toArray b.2.2 (0, 0))) → Reads w p xs

def lateB (A : List (Int × List Ent)) (tick : Int) : Bool := match A.getLast? with
  | some x => decide (tick ≤ x.1)
  | none => false
def badT (A : List (Int × List Ent)) (tick : Int) : Bool := decide (tick < 0) || decide (tick ≥ 1099511627776) || lateB A tick
def makeE (A : List (Int × List Ent)) (tick : Int) (es : List Ent) : Int := if badT A tick then 1 else if okV (-1) es then 0 else 220
def baseV (A : List (Int × List Ent)) (acked tick : Int) : Option (List Ent) := if 0 ≤ acked ∧ tick - acked < 65536 then (A.find? fun x => x.1 == acked).map (·.2) else none

theorem last_of {R : List Sh} (h : 0 < R.length) : ∃ s, R[R.length - 1]? = some s ∧ (R.map Sh.abs).getLast? = some s.abs := by
  have hl : R.length - 1 < R.length := by omega
  refine ⟨R[R.length - 1], List.getElem?_eq_getElem hl, ?_⟩
  rw [List.getLast?_map, List.getLast?_eq_getElem?, List.getElem?_eq_getElem hl]
  rfl
theorem find_abs (R : List Sh) (t : Int) : ((R.map Sh.abs).find? fun x => x.1 == t) = (R.find? fun s => s.t == t).map Sh.abs := by
  rw [List.find?_map]
  rfl
theorem late_all {A : List (Int × List Ent)} (hi : A.Pairwise fun a b => a.1 < b.1) {tick : Int} (h : lateB A tick = false) : ∀ x ∈ A, x.1 < tick := by
  intro x hx
  unfold lateB at h
  rcases List.eq_nil_or_concat A with rfl | ⟨A', y, rfl⟩
  · cases hx
  · rw [List.concat_eq_append] at hi hx h
    rw [List.getLast?_concat] at h
    have hy : y.1 < tick := by simpa using h
    rcases List.mem_append.1 hx with hx | hx
    · have hp := List.pairwise_append.1 hi
      have := hp.2.2 x hx y (by simp)
      omega
    · obtain rfl := List.mem_singleton.1 hx
      exact hy

def fdC : Option Sh → List Value
  | some s => s.cells
  | none => [.int .i64 0, .slice none 0 0]
def fdP : Option Sh → Option Addr
  | some s => s.p
  | none => none
def fdE : Option Sh → List Ent
  | some s => s.es
  | none => []
def fdCap : Option Sh → Nat
  | some s => s.c
  | none => 0
def fdT : Option Sh → Int
  | some s => s.t
  | none => 0
theorem fdC_eq (f : Option Sh) : fdC f = [.int .i64 (fdT f), .slice (fdP f) (fdE f).length (fdCap f)] := by cases f <;> rfl
theorem fdV_eq (f : Option Sh) : fdV f = .tuple #[.agg #[.int .i64 (fdT f), .slice (fdP f) (fdE f).length (fdCap f)], .bool f.isSome] := by cases f <;> rfl

/-- a new block known -/
theorem _root_.Go.Sx.Bn.add {w00 : World} {M : Nat → Prop} {wa w : World} {L : List (Nat × List Value × TypeId)} {J : (Nat → Prop) → World → Prop} (h : Bn w00 M wa w L J) {w' : World} (hx : Ext no w w') {q : Nat} {cs : List Value} {t : TypeId} (hq : w.heap.size ≤ q) (hb : w'.heap[q]? = some (.cells cs.toArray t (0, 0))) :
    Bn w00 M wa w' ((q, cs, t) :: L) J := by
  obtain ⟨B, hj, hlt, ha, hm, ho⟩ := h.ex
  have h' := h.to hx
  have hs := h.ext.size
  refine ⟨h'.old, h'.lo, h'.ext, fun b hb' => ?_, List.Pairwise.cons (fun b hb' => ?_) h'.nd, h'.kp, B, h.kp B _ _ (Ext.of_no hx) hj, fun k hk => Nat.lt_of_lt_of_le (hlt k hk) hx.size, fun b hb' hB => ?_, hm, ho⟩
  · rcases List.mem_cons.1 hb' with rfl | hb'
    · exact ⟨hb, by simp only; omega⟩
    · exact h'.kn b hb'
  · have := blk_lt (h.kn b hb').1
    simp only
    omega
  · rcases List.mem_cons.1 hb' with rfl | hb'
    · have := hlt _ hB
      omega
    · exact ha b hb' hB

theorem tab_mem {es : List Ent} {e : Ent} (h : e ∈ tab es) : e = Ent.zero ∨ e ∈ es := by
  have key : ∀ (es : List Ent) (T : List Ent), e ∈ es.foldl tabF T → e ∈ T ∨ e ∈ es := by
    intro es
    induction es with
    | nil => exact fun T h => .inl h
    | cons x es ih =>
      intro T h
      rcases ih _ h with h | h
      · rcases List.mem_or_eq_of_mem_set h with h | rfl
        · exact .inl h
        · exact .inr List.mem_cons_self
      · exact .inr (List.mem_cons_of_mem _ h)
  rcases key es _ h with h | h
  · exact .inl (List.eq_of_mem_replicate h)
  · exact .inr h
theorem zero_I : Ent.zero.I := by unfold Ent.I I64; decide
theorem tab_I {es : List Ent} (h : ∀ e ∈ es, e.I) : ∀ e ∈ tab es, e.I := fun e he => by
  rcases tab_mem he with rfl | he
  · exact zero_I
  · exact h e he
/-- who is other is one of the view -/
theorem oth_mem {es0 es : List Ent} (h0 : ∀ e ∈ es0, 64 ≤ e.h) {p : Nat} (hp : p ∈ othL (tab es0) (tab es) 64) : (tab es).getD p Ent.zero ∈ es := by
  have hlt := othL_lt hp
  have hb : othB (tab es0) (tab es) p = true := (List.mem_filter.1 hp).2
  have m1 := tmem (tab_len es) hlt
  have m0 := tmem (tab_len es0) hlt
  rcases tab_mem m1 with e1 | h1
  · exfalso
    simp only [othB, goneB, e1, Bool.and_eq_true, Bool.not_eq_true', decide_eq_false_iff_not] at hb
    rcases tab_mem m0 with e2 | h2
    · exact hb.2 e2.symm
    · have h64 := h0 _ h2
      have hg := hb.1
      have : ((tab es0).getD p Ent.zero).h ≠ 0 := by omega
      have hz : Ent.zero.h = 0 := rfl
      rw [hz] at hg
      simp only [beq_self_eq_true, Bool.true_and, bne_eq_false_iff_eq] at hg
      exact this hg
  · exact h1
theorem cellsL_tab (T : List Ent) : cellsL (.agg (T.flatMap Ent.cells).toArray) = T.flatMap Ent.cells := by simp [cellsL]

set_option maxHeartbeats 6400000 in
theorem make_k {w00 : World} (hp : Pts w00) {B : Nat → Prop} {w : World} {q : Nat} {acked : Int} {A : List (Int × List Ent)} (hS : Bn w00 B w w [] (RJ q [.int .i64 acked] 64 A)) (hA : SOk A) (hac : -1 ≤ acked ∧ acked < 1099511627776) {tick : Int} (htI : I64 tick)
    {pv : Option Addr} {n c : Nat} {es : List Ent} (hv : Reads w pv (es.flatMap Ent.cells)) (hn : es.length = n) (hnl : n ≤ 4611686018427387904) (hI : ∀ e ∈ es, e.I) {K : Value → World → Prop}
    (hK1 : makeE A tick es ≠ 0 → ∀ w', Ext no w w' → K (.tuple #[.slice none 0 0, .int .i64 (makeE A tick es)]) w')
    (hK0 : makeE A tick es = 0 → ∀ p' c' bs w' L', Bn w00 B w w' L' (RJ q [.int .i64 acked] 64 (lastR (A ++ [(tick, es)]))) → HV L' p' (bv bs) → Packs bs (makeB tick acked (baseV A acked tick) es) → K (.tuple #[.slice p' bs.length c', .int .i64 0]) w') :
    cl Tryd.prog 13 #[.pointer (some ⟨q, 0, none⟩), .int .i64 tick, .slice pv n c] w K := by
  subst hn
  obtain ⟨B0, ⟨p, cp, R, rfl, hX, hRA⟩, hlt, hna, hm, ho⟩ := hS.ex
  have hRl : R.length = A.length := by rw [← hRA, List.length_map]
  have hAl := hA.len
  have hq0 : ∀ {w'}, Ext no w w' → w'.heap[q]? = some (.cells #[.slice p R.length cp, .int .i64 acked] 64 (0, 0)) := fun hx => hx.blk hX.blk (fun h => h)
  apply F13_calls
  unfold F13
  refine lv_i (dr_i (ld_mk (by rw [blk_cell hX.blk]; rfl) (asS_i rfl (lv_i ?_))))
  refine jn_of (fun s w' => s = [.bool (badT A tick)] ∧ w' = w) ?_ ?_
  rotate_left
  · intro J hJ
    refine cond_split (fun h1 => hJ _ _ ⟨by simp only [badT, h1, Bool.true_or], rfl⟩) (fun h1 => cond_split (fun h2 => hJ _ _ ⟨by simp only [badT, h2, Bool.true_or, Bool.or_true], rfl⟩) (fun h2 => cond_split (fun h3 => ?_) (fun h3 => hJ _ _ ⟨?_, rfl⟩)))
    · have h0 : 0 < R.length := by have := of_decide_eq_true h3; omega
      obtain ⟨s, hs1, hs2⟩ := last_of h0
      refine dr_i (ld_mk (by rw [blk_cell hX.blk]; rfl) (asS_i rfl ?_))
      have e1 : IntKind.wrap .i64 ((R.length : Int) - 1) = ((R.length - 1 : Nat) : Int) := by rw [wr64 (by omega) (by omega)]; omega
      rw [e1]
      refine Reads.atN (f := Sh.cells) Sh.cells_length hX.row.reads rfl hs1 (by decide) fun a _ hca => ?_
      have hc0 := hca 0 (by decide)
      rw [Sx.add_zero'] at hc0
      rw [Int.toNat_natCast]
      refine ld_mk hc0 (asI_i rfl (hJ _ _ ⟨?_, rfl⟩))
      rw [hRA] at hs2
      simp only [badT, h1, h2, lateB, hs2, Bool.false_or]
      rfl
    · have h0 : R.length = 0 := by have := of_decide_eq_false h3; omega
      have : A = [] := List.eq_nil_of_length_eq_zero (by omega)
      simp [badT, h1, h2, this, lateB]
  rintro _ w ⟨rfl, rfl⟩
  refine asB_i rfl (cond_split (fun hbad => lv_i ?_) (fun hbad => ?_))
  · have e : makeE A tick es = 1 := by unfold makeE; rw [if_pos hbad]
    have := hK1 (by rw [e]; decide) _ (Ext.refl _ _)
    rwa [e] at this
  have hbad' := hbad
  simp only [badT, Bool.or_eq_false_iff, decide_eq_false_iff_not] at hbad'
  obtain ⟨⟨ht0, ht1⟩, hlate⟩ := hbad'
  have hall := late_all hA.inc hlate
  refine vright_k hv rfl hnl hI fun w2 hx2 => asI_i rfl (lv_i ?_)
  by_cases hok : okV (-1) es = true
  rotate_left
  · have e : makeE A tick es = 220 := by unfold makeE; rw [if_neg (by simp [hbad]), if_neg hok]
    rw [if_neg hok]
    refine cond_t rfl (lv_i ?_)
    have := hK1 (by rw [e]; decide) _ hx2
    rwa [e] at this
  have e0 : makeE A tick es = 0 := by unfold makeE; rw [if_neg (by simp [hbad]), if_pos hok]
  replace hK0 := hK0 e0
  rw [if_pos hok]
  refine cond_f rfl ?_
  have hpw : Pts w := hp.no hS.all
  have hF : Bn w no w w2 [] emp := (Bn.fresh w).to hx2
  obtain ⟨f, hf⟩ : ∃ f, f = R.find? fun s => s.t == acked := ⟨_, rfl⟩
  obtain ⟨g, hg⟩ : ∃ g, g = if 0 ≤ acked ∧ tick - acked < 65536 then f else none := ⟨_, rfl⟩
  have hfmem : ∀ s, f = some s → s ∈ R ∧ s.t = acked := fun s hs => by
    rw [hf] at hs
    exact ⟨List.mem_of_find?_eq_some hs, by simpa using List.find?_some hs⟩
  have habs : ∀ s ∈ R, s.abs ∈ A := fun s hs => by rw [← hRA]; exact List.mem_map_of_mem hs
  have hgf : ∀ s, g = some s → f = some s ∧ 0 ≤ acked ∧ tick - acked < 65536 := fun s hs => by
    rw [hg] at hs
    split at hs
    · rename_i h; exact ⟨hs, h⟩
    · cases hs
  have hbase : baseV A acked tick = g.map (·.es) := by
    unfold baseV
    rw [hg, ← hRA, find_abs, ← hf]
    split
    · cases f <;> rfl
    · rfl
  have hgv : Reads w (fdP g) ((fdE g).flatMap Ent.cells) ∧ okV (-1) (fdE g) = true ∧ ∀ e ∈ fdE g, e.I := by
    cases hgs : g with
    | none => exact ⟨.inl rfl, rfl, fun e he => by cases he⟩
    | some s =>
      have hs := (hfmem s (hgf s hgs).1).1
      exact ⟨(hX.vw s hs).1, hA.ok _ (habs s hs)⟩
  refine hF.new fun r w3 hF => asP_i rfl ?_
  have p40 : (2 : Nat) ^ 40 = 1099511627776 := by decide
  refine hF.put (v := tick) (n := 40) (by omega) (by omega) (by decide) (by simp) fun w4 hF => asI_i rfl ?_
  rw [List.nil_append] at hF
  refine jn_of (fun s w' => ∃ rb, s = [.pointer (some ⟨rb, 0, none⟩), .bool f.isSome] ∧ Bn w no w w' [(rb, fdC f, 68)] (WJ r (numBits tick.toNat 40))) ?_ ?_
  rotate_left
  · intro J hJ
    refine hF.dw fun w5 hF _ => ?_
    have b5 := hq0 hF.all
    refine dr_i (ld_mk (by rw [blk_cell b5]; rfl) (asS_i rfl (dr_i (ld_mk (by rw [add_mk, blk_cell b5]; rfl) (asI_i rfl ⟨?_, ?_⟩)))))
    · refine find_k (hX.row.reads.ext hF.all fun _ _ h => h) (by omega) fun w6 hx6 => ?_
      rw [← hf, fdV_eq]
      have hF := hF.to hx6
      refine asT_i rfl rfl (asA_i rfl rfl (asI_i rfl (asS_i rfl (asB_i rfl ?_))))
      refine hF.nw (cs := [.int .i64 0, .slice none 0 0]) fun rb w7 hF => ?_
      refine hF.st0 0 rfl rfl rfl fun w8 hF => hF.st 0 rfl rfl rfl fun w9 hF => hJ _ _ ⟨rb, rfl, ?_⟩
      rw [fdC_eq]
      exact hF
    · refine hF.nw (cs := [.int .i64 0, .slice none 0 0]) fun rb w7 hF => ?_
      have b7 := hq0 hF.all
      refine hd_i (by rw [add_mk, blk_cell b7]; rfl) (hd_i (by rw [blk_cell b7]; rfl) ?_)
      refine find_k (hX.row.reads.ext hF.all fun _ _ h => h) (by omega) fun w8 hx8 => ?_
      rw [← hf, fdV_eq]
      have hF := hF.to hx8
      refine asT_i rfl rfl (asA_i rfl rfl (asI_i rfl (asS_i rfl (asB_i rfl ?_))))
      refine hF.st0 0 rfl rfl rfl fun w9 hF => hF.st 0 rfl rfl rfl fun w10 hF => hJ _ _ ⟨rb, rfl, ?_⟩
      rw [fdC_eq]
      exact hF
  clear hF
  rintro _ w5 ⟨rb, rfl, hF⟩
  refine asP_i rfl (asB_i rfl ?_)
  refine jn_of (fun s w' => s = [] ∧ Bn w no w w' [(rb, fdC g, 68)] (WJ r (headB tick acked (g.map (·.es))))) ?_ ?_
  rotate_left
  · intro J hJ
    refine jn_of (fun s w' => s = [.bool g.isSome] ∧ w' = w5) ?_ ?_
    rotate_left
    · intro J2 hJ2
      have b5 := hq0 hF.all
      refine cond_split (fun hs => dr_i (ld_mk (by rw [add_mk, blk_cell b5]; rfl) (asI_i rfl (cond_split (fun h0 => dr_i (ld_mk (by rw [add_mk, blk_cell b5]; rfl) (asI_i rfl (hJ2 _ _ ⟨?_, rfl⟩)))) (fun h0 => hJ2 _ _ ⟨?_, rfl⟩))))) (fun hs => hJ2 _ _ ⟨?_, rfl⟩)
      · have h0' : 0 ≤ acked := of_decide_eq_true h0
        rw [wr64 (by omega) (by omega), hg]
        by_cases h : tick - acked < 65536
        · rw [if_pos ⟨h0', h⟩, hs]; simp [h]
        · rw [if_neg (fun hh => h hh.2)]; simp [h]
      · have h0' : ¬ 0 ≤ acked := of_decide_eq_false h0
        rw [hg, if_neg (fun hh => h0' hh.1)]
        rfl
      · rw [hg]
        have : f = none := by simpa using hs
        rw [this]
        simp
    rintro _ w5 ⟨rfl, rfl⟩
    refine asB_i rfl (cond_split (fun hs => ?_) (fun hs => ?_))
    · obtain ⟨s, hgs⟩ := Option.isSome_iff_exists.1 hs
      obtain ⟨hfs, h0, h1⟩ := hgf s hgs
      have hlt2 := hall _ (habs s (hfmem s hfs).1)
      have hst := (hfmem s hfs).2
      have hlt3 : acked < tick := by rw [← hst]; exact hlt2
      refine hF.put (n := 1) (by decide) (by decide) (by decide) (by simp [numBits_length]) fun w6 hF => asI_i rfl ?_
      have b6 := hq0 hF.all
      refine dr_i (ld_mk (by rw [add_mk, blk_cell b6]; rfl) (asI_i rfl ?_))
      rw [wr64 (by omega) (by omega)]
      have p16 : (2 : Nat) ^ 16 = 65536 := by decide
      refine hF.put (n := 16) (by omega) (by omega) (by decide) (by simp [numBits_length]) fun w7 hF => asI_i rfl (hJ _ _ ⟨rfl, ?_⟩)
      rw [hgs, ← hfs]
      rw [hfs] at hF ⊢
      exact hF
    · have hgs : g = none := by simpa using hs
      rw [fdC_eq] at hF
      refine dr_i (hF.st0 0 rfl rfl rfl fun w6 hF => hF.st 0 rfl rfl rfl fun w7 hF => ?_)
      refine hF.put (n := 1) (by decide) (by decide) (by decide) (by simp [numBits_length]) fun w8 hF => asI_i rfl (hJ _ _ ⟨rfl, ?_⟩)
      rw [hgs]
      exact hF
  clear hF
  rintro _ w6 ⟨rfl, hF⟩
  rw [fdC_eq] at hF
  refine dr_i (hF.ld 0 rfl rfl (asS_i rfl ?_))
  have hglen := okV_len hgv.2.1 (by decide)
  have hg64 : ∀ e ∈ fdE g, 64 ≤ e.h := fun e he => (okV_mem hgv.2.1 e he).2.1
  have he64 : ∀ e ∈ es, 64 ≤ e.h := fun e he => (okV_mem hok e he).2.1
  have heslen := okV_len hok (by decide)
  refine tabled_k (hgv.1.ext hF.all fun _ _ h => h) rfl (by omega) (fun e he => by have := hg64 e he; omega) fun w7 hx7 => ?_
  have hF := hF.to hx7
  refine tabled_k (hv.ext hF.all fun _ _ h => h) rfl (by omega) (fun e he => by have := he64 e he; omega) fun w8 hx8 => ?_
  have hF := hF.to hx8
  rw [zc_table]
  refine hF.nw fun r109 w9 hF => hF.nw fun r111 w10 hF => ?_
  rw [cellsL_tab, cellsL_tab]
  have hl0 := fl_lenN (f := Ent.cells) Ent.cells_length (tab (fdE g))
  have hl1 := fl_lenN (f := Ent.cells) Ent.cells_length (tab es)
  rw [tab_len] at hl0 hl1
  refine cond_t (by rw [hl0]; rfl) (Bn.stCells hF 1 rfl (by rw [hl0, fl_lenN Ent.cells_length, List.length_replicate]) (ents_one _) fun w11 hF => ?_)
  refine cond_t (by rw [hl1]; rfl) (Bn.stCells hF 0 rfl (by rw [hl1, fl_lenN Ent.cells_length, List.length_replicate]) (ents_one _) fun w12 hF => ?_)
  have hb1 := (hF.kn (r111, (tab es).flatMap Ent.cells, 75) (by simp)).1
  have hb0 := (hF.kn (r109, (tab (fdE g)).flatMap Ent.cells, 75) (by simp)).1
  refine collect_k hb0 hb1 (tab_len _) (tab_len _) (tab_I hgv.2.2) (tab_I hI) fun p3 c3 p4 c4 w13 hx13 hr3 hr4 => ?_
  obtain ⟨B1, ⟨pw, cw, bsw, rfl, hW⟩, hlt1, hna1, -, ho1⟩ := hF.ex
  have hW' := hW.keep hx13 (fun h => h) fun _ _ h => h
  have hG : Bn w (wm r pw) w13 w13 [] (WJ r (headB tick acked (g.map (·.es)))) := Bn.start (hF.all.trans hx13) ⟨pw, cw, bsw, rfl, hW'⟩ WJ.kp (wm_lt hW') ho1
  have hhead : (headB tick acked (g.map (·.es))).length ≤ 200 := by cases g <;> simp [headB, numBits_length]
  refine puts_k hpw hG (hx13.blk hb0 (fun h => h)) (hx13.blk hb1 (fun h => h)) (tab_len _) (tab_len _) (hna1 (r109, (tab (fdE g)).flatMap Ent.cells, 75) (by simp)) (hna1 (r111, (tab es).flatMap Ent.cells, 75) (by simp))
    hr3.reads (fun a ha h => by have := hlt1 _ h; have := (hr3.at ha).1; omega) hr4.reads (fun a ha h => by have := hlt1 _ h; have := (hr4.at ha).1; omega) (fun x hx => ?_) hhead fun w14 hG => ?_
  · have hmem := oth_mem hg64 hx
    have h1 := okV_mem hok _ hmem
    exact ⟨right_fit h1.1, hI _ hmem, by have := h1.2.1; omega, h1.2.2.1⟩
  refine hG.dw fun w15 hG _ => dr_i ?_
  have hsz15 := hG.all.size
  refine eclone_k (hv.ext hG.all fun _ _ h => h) (by omega) fun p9 c9 w16 hx16 hrow9 => asS_i rfl ?_
  have hG := hG.to hx16
  have hX16 := hX.ext hG.all fun _ _ h => h
  have hsz := hG.all.size
  refine rput_k (s := ⟨tick, p9, c9, es⟩) hX16 hrow9.reads (fun a ha => ?_) (by omega) fun p10 c10 w17 hX17 hx17 hm17 => ?_
  · have h1 := hrow9.at ha
    have h2 := blk_lt hX.blk
    refine ⟨h1.2, by omega, fun b hb => ?_⟩
    have := (hX.row.at hb).2
    omega
  obtain ⟨B2, ⟨pw2, cw2, bs2, rfl, hW2⟩, hlt2, -, -, ho2⟩ := hG.ex
  have hapart : ∀ k, w.heap.size ≤ k → ¬ (k = q ∨ blocks p k) := by
    rintro k hk (rfl | ⟨a, ha, rfl⟩)
    · have := blk_lt hX.blk
      omega
    · have := (hX.row.at ha).2
      omega
  have hW17 := hW2.keep hx17 (hapart _ (ho2 _ (.inl rfl))) fun a ha => hapart _ (ho2 _ (.inr ⟨a, ha, rfl⟩))
  have hx017 : Ext (rB q p R) w w17 := (Ext.of_no hG.all).trans (hx17.mono fun k _ hk => hk.elim .inl fun h => .inr (.inl h))
  have hRJ : RJ q [.int .i64 acked] 64 (lastR (A ++ [(tick, es)])) (rB q p10 (lastR (R ++ [⟨tick, p9, c9, es⟩]))) w17 := by
    refine ⟨p10, c10, _, rfl, hX17, ?_⟩
    rw [lastR_map, List.map_append, hRA]
    rfl
  have hS17 : Bn w00 B w w17 [] (RJ q [.int .i64 acked] 64 (lastR (A ++ [(tick, es)]))) := by
    refine hS.act hlt hna hm ho RJ.kp hRJ hx017 hX17.lt ?_
    rintro k hk (rfl | ⟨a, ha, rfl⟩ | ⟨s, hs, a, ha, rfl⟩)
    · exact .inl rfl
    · rcases hm17 with rfl | hm17
      · exact .inr (.inl ⟨a, ha, rfl⟩)
      · have := hm17 a ha
        omega
    · rcases List.mem_append.1 (lastR_sub hs) with hs | hs
      · exact .inr (.inr ⟨s, hs, a, ha, rfl⟩)
      · obtain rfl := List.mem_singleton.1 hs
        have := (hrow9.at ha).1
        omega
  refine bytes_k hW17 fun p' c' w18 hx18 hrow18 hnil => asS_i rfl (lv_i ?_)
  have hpk := hW2.pk
  have hmk : makeB tick acked (baseV A acked tick) es = headB tick acked (g.map (·.es)) ++ bodyB (tab (fdE g)) (tab es) := by
    unfold makeB
    rw [hbase]
    cases g <;> rfl
  rw [← hmk] at hpk
  rcases hrow18.cases with ⟨rfl, _, h0⟩ | ⟨g18, cur, rfl, hge, hblk, _, _, _, htk⟩
  · exact hK0 _ _ bs2 w18 [] (hS17.to hx18) (fun _ _ => .inl h0) hpk
  · refine hK0 _ _ bs2 w18 [(g18, cur.toList, 5)] (hS17.add hx18 hge (by simpa using hblk)) (fun w' hw' => .inr ⟨g18, 0, rfl, fun i v hv => ?_⟩) hpk
    have hb' := hw' _ List.mem_cons_self
    rw [blk_cell hb', Nat.zero_add]
    rw [← htk, List.getElem?_take] at hv
    split at hv
    · simpa using hv
    · cases hv
end Go.Proofs.YtfnepdppkmjboaaDoor

/- SnQ: a reader of bits beside own blocks: numbers taken off a known row of bits. Conditions: those of each theorem, on its arguments. -/
namespace Go.Proofs.YtfnepdppkmjboaaDoor
open Go Go.Sx Go.Fp
attribute [local irreducible] jn lv ld st nw asI asB asP asS asY asM asF asA asT lp rn ru rq cl dw dr bnd bn2 nz nn hd hr so eqW
attribute [local irreducible] callOk

def dB (q rr : Nat) (p : Option Addr) : Nat → Prop := fun k => k = q ∨ k = rr ∨ blocks p k
/-- the block q: a reader of bits that are yet to come, and no fault seen -/
def DJ (q : Nat) (rest : List Bool) (B : Nat → Prop) (w : World) : Prop :=
  ∃ rr p c lo hi bs l at', B = dB q rr p ∧ w.heap[q]? = some (.cells #[.pointer (some ⟨rr, 0, none⟩), .bool false] 87 (0, 0)) ∧ Rdr w lo hi rr p c bs at' ∧ q ≠ rr ∧ (∀ a, p = some a → a.block ≠ q) ∧ Packs bs l ∧ l.drop at' = rest ∧ at' ≤ l.length

theorem Rdr.keep2 {w w' : World} {lo hi r : Nat} {p : Option Addr} {c : Nat} {bs : List Nat} {at' : Nat} (h : Rdr w lo hi r p c bs at') {M : Nat → Prop} (hx : Ext M w w')
    (hr : ¬ M r) (hp : ∀ a, p = some a → ¬ M a.block) : Rdr w' lo hi r p c bs at' :=
  ⟨h.hlo, h.hhi, Nat.le_trans h.le hx.size, h.phi, h.ne, hx.blk h.blk hr, h.reads.ext hx hp, h.small, h.len, h.at_le⟩

theorem DJ.kp {q : Nat} {rest : List Bool} : Kp (DJ q rest) := by
  rintro B w w' hx ⟨rr, p, c, lo, hi, bs, l, at', rfl, hb, hR, h1, h2, h3, h4, h5⟩
  exact ⟨rr, p, c, lo, hi, bs, l, at', rfl, hx.blk hb (fun h => h (.inl rfl)), hR.keep2 hx (fun h => h (.inr (.inl rfl))) fun a ha h => h (.inr (.inr ⟨a, ha, rfl⟩)), h1, h2, h3, h4, h5⟩

theorem _root_.Go.Sx.Packs.bits {bs : List Nat} {l : List Bool} (h : Packs bs l) {at' n v : Nat} {rest : List Bool} (hd : l.drop at' = numBits v n ++ rest) (h0 : at' ≤ l.length) (hv : v < 2 ^ n) (hn : n ≤ 63) :
    takeE bs at' n = 0 ∧ takeV bs at' n = (v : Int) ∧ takeA bs at' n = at' + n ∧ l.drop (at' + n) = rest ∧ at' + n ≤ l.length ∧ at' + n ≤ 8 * bs.length := by
  have hlen := congrArg List.length hd
  rw [List.length_drop, List.length_append, numBits_length] at hlen
  have hl := h.len
  have hle : at' + n ≤ l.length := by omega
  have h8 : at' + n ≤ 8 * bs.length := by omega
  have e1 : takeE bs at' n = 0 := by unfold takeE; rw [if_neg (by omega), if_neg (by omega)]
  refine ⟨e1, ?_, by unfold takeA; rw [if_pos e1, Int.toNat_natCast], ?_, hle, h8⟩
  · unfold takeV
    rw [if_pos e1, Int.toNat_natCast, rdv_numBits hv fun i hi => ?_]
    rw [h.bit (at' + i) (by omega)]
    have : (l.drop at')[i]? = some (v.testBit (n - 1 - i)) := by
      rw [hd, List.getElem?_append_left (by rw [numBits_length]; exact hi), numBits_get _ _ _ hi]
    rw [List.getElem?_drop] at this
    rw [List.getD_eq_getElem?_getD, this]
    rfl
  · rw [← List.drop_drop, hd, List.drop_left' (numBits_length v n)]

theorem _root_.Go.Sx.Packs.done {bs : List Nat} {l : List Bool} (h : Packs bs l) {at' : Nat} (hd : l.drop at' = []) (ha : at' ≤ l.length) : doneB bs at' = true := by
  have hl : at' = l.length := by
    have := congrArg List.length hd
    rw [List.length_drop, List.length_nil] at this
    omega
  have hlen := h.len
  unfold doneB
  refine decide_eq_true ⟨by omega, fun i hi => ?_⟩
  rw [h.bit (at' + i) (by omega), List.getD_eq_getElem?_getD, List.getElem?_eq_none (by omega)]
  rfl

section
variable {w00 : World} {M : Nat → Prop} {wa w : World} {L : List (Nat × List Value × TypeId)} {q : Nat}
theorem _root_.Go.Sx.Bn.take {v n : Nat} {rest : List Bool} (h : Bn w00 M wa w L (DJ q (numBits v n ++ rest))) (hv : v < 2 ^ n) (hn : n ≤ 63) {K : Value → World → Prop}
    (hK : ∀ w', Bn w00 M wa w' L (DJ q rest) → K (.int .i64 (v : Int)) w') : cl Tryd.prog 35 #[.pointer (some ⟨q, 0, none⟩), .int .i64 (n : Int)] w K := by
  obtain ⟨B, ⟨rr, p, c, lo, hi, bs, l, at', rfl, hb, hR, h1, h2, h3, h4, h5⟩, hlt, hna, hm, ho⟩ := h.ex
  obtain ⟨t1, t2, t3, t4, t5, t6⟩ := h3.bits h4 h5 hv hn
  apply F35_calls
  unfold F35
  refine lv_i (dr_i (ld_mk (by rw [blk_cell hb]; rfl) (asP_i rfl ?_)))
  refine take_k hR fun w1 hR1 hx1 => ?_
  rw [t1, t2]
  rw [t3] at hR1
  refine asT_i rfl rfl (asI_i rfl (asI_i rfl (lv_i (lv_i ?_))))
  have hb1 := hx1.blk hb h1
  refine jn_of (fun s w' => s = [] ∧ w'.heap[q]? = some (.cells #[.pointer (some ⟨rr, 0, none⟩), .bool false] 87 (0, 0)) ∧ Ext (onl q) w1 w') ?_ ?_
  · rintro _ w2 ⟨rfl, hb2, hx2⟩
    have hx : Ext (dB q rr p) w w2 := (hx1.mono fun k _ hk => .inr (.inl hk)).trans (hx2.mono fun k _ hk => .inl hk)
    have hR2 := hR1.keep2 hx2 (fun e => h1 (Eq.symm e)) fun a ha e => h2 a ha e
    refine lv_i (hK _ (h.act hlt hna hm ho DJ.kp ⟨rr, p, c, lo, hi, bs, l, at' + n, rfl, hb2, hR2, h1, h2, h3, t4, t5⟩ hx (fun k hk => Nat.lt_of_lt_of_le (hlt k hk) hx.size) fun k _ hk => hk))
  · intro J hJ
    refine dr_i (ld_mk (by rw [add_mk, blk_cell hb1]; rfl) (asB_i rfl (cond_f rfl (dr_i ?_))))
    rw [add_mk]
    refine st_mk hb1 (by simp) rfl (hJ _ _ ⟨rfl, ?_, Ext.set w1 ⟨q, 0 + 1, none⟩ _⟩)
    rw [blk_set hb1]
    rfl
theorem _root_.Go.Sx.Bn.done (h : Bn w00 M wa w L (DJ q [])) : ∃ rr, w.cell? ⟨q, 0, none⟩ = some (.pointer (some ⟨rr, 0, none⟩)) ∧ ∀ {K : Value → World → Prop}, (∀ w', Ext no w w' → K (.bool true) w') → cl Tryd.prog 38 #[.pointer (some ⟨rr, 0, none⟩)] w K := by
  obtain ⟨B, ⟨rr, p, c, lo, hi, bs, l, at', rfl, hb, hR, h1, h2, h3, h4, h5⟩, hlt, hna, hm, ho⟩ := h.ex
  refine ⟨rr, by rw [blk_cell hb]; rfl, fun {K} hK => ?_⟩
  refine done_k hR fun w' hx => ?_
  rw [h3.done h4 h5]
  exact hK w' hx
/-- no fault was seen -/
theorem _root_.Go.Sx.Bn.wrong {rest : List Bool} (h : Bn w00 M wa w L (DJ q rest)) : w.cell? ⟨q, 1, none⟩ = some (.bool false) := by
  obtain ⟨B, ⟨rr, p, c, lo, hi, bs, l, at', rfl, hb, hR, h1, h2, h3, h4, h5⟩, hlt, hna, hm, ho⟩ := h.ex
  rw [blk_cell hb]
  rfl
/-- and it is noted again -/
theorem _root_.Go.Sx.Bn.noWrong {rest : List Bool} (h : Bn w00 M wa w L (DJ q rest)) {K : World → Prop} (hK : ∀ w', Bn w00 M wa w' L (DJ q rest) → K w') : Sx.st w (Addr.add ⟨q, 0, none⟩ 1) (.bool false) K := by
  obtain ⟨B, ⟨rr, p, c, lo, hi, bs, l, at', rfl, hb, hR, h1, h2, h3, h4, h5⟩, hlt, hna, hm, ho⟩ := h.ex
  rw [add_mk]
  have hx := Ext.set w ⟨q, 0 + 1, none⟩ (.bool false)
  refine st_mk hb (by simp) rfl (hK _ (h.act hlt hna hm ho DJ.kp ⟨rr, p, c, lo, hi, bs, l, at', rfl, ?_, hR.keep2 hx (fun e => h1 (Eq.symm e)) fun a ha e => h2 a ha e, h1, h2, h3, h4, h5⟩ (hx.mono fun k _ hk => .inl hk) (fun k hk => Nat.lt_of_lt_of_le (hlt k hk) hx.size) fun k _ hk => hk))
  rw [blk_set hb]
  rfl
end
end Go.Proofs.YtfnepdppkmjboaaDoor

/- SnQ2: an entity's tag, put together of its halves. No condition. -/
namespace Go.Proofs.YtfnepdppkmjboaaDoor
open Go Go.Sx Go.Fp
attribute [local irreducible] jn lv ld st nw asI asB asP asS asY asM asF asA asT lp rn ru rq cl dw dr bnd bn2 nz nn hd hr so eqW
attribute [local irreducible] callOk

theorem wrap_mod {x : Nat} (h : x < 18446744073709551616) : (IntKind.wrap .i64 (x : Int) % 18446744073709551616).toNat = x := by
  have e : IntKind.wrap .i64 (x : Int) % 18446744073709551616 = (x : Int) := by
    rw [IntKind.wrap_i64]
    omega
  rw [e, Int.toNat_natCast]

theorem tag_join {t : Int} (ht : I64 t) : Go.bits .or .i64 (IntKind.wrap .i64 (tagHi t * 2 ^ (min (Int.toNat (32 : Int)) 64))) (tagLo t) = t := by
  obtain ⟨a1, a2⟩ := tagHi_rng t
  obtain ⟨b1, b2⟩ := tagLo_rng t
  obtain ⟨h1, h2⟩ := ht
  have eu : IntKind.wrap .u64 t = t % 18446744073709551616 := by simp [IntKind.wrap, IntKind.bits, IntKind.signed]
  have el : tagLo t = t % 4294967296 := by unfold tagLo; simp [IntKind.wrap, IntKind.bits, IntKind.signed]
  have eh : tagHi t = (t % 18446744073709551616) / 4294967296 := by
    unfold tagHi
    rw [eu, Int.fdiv_eq_ediv_of_nonneg _ (by decide)]
    rfl
  obtain ⟨hi, hhi⟩ : ∃ n : Nat, tagHi t = (n : Int) := ⟨(tagHi t).toNat, by omega⟩
  obtain ⟨lo, hlo⟩ : ∃ n : Nat, tagLo t = (n : Int) := ⟨(tagLo t).toNat, by omega⟩
  have e32 : (2 : Int) ^ (min (Int.toNat (32 : Int)) 64) = 4294967296 := by decide
  rw [hhi, hlo, e32]
  have hhi' : hi < 4294967296 := by omega
  have hlo' : lo < 4294967296 := by omega
  have key : Go.bits .or .i64 (IntKind.wrap .i64 ((hi : Int) * 4294967296)) (lo : Int) = IntKind.wrap .i64 (((hi * 4294967296) ||| lo : Nat) : Int) := by
    have hb : (BitVec.ofInt 64 (IntKind.wrap .i64 ((hi : Int) * 4294967296))).toNat = hi * 4294967296 := by
      have hx : (hi : Int) * 4294967296 = ((hi * 4294967296 : Nat) : Int) := by rw [Int.natCast_mul]; rfl
      have hx2 : hi * 4294967296 < 18446744073709551616 := by omega
      rw [BitVec.toNat_ofInt]
      rw [hx]
      generalize hi * 4294967296 = x at hx2
      have e64 : ((2 ^ 64 : Nat) : Int) = 18446744073709551616 := by decide
      rw [e64]
      exact wrap_mod hx2
    have hb2 : (BitVec.ofInt 64 (lo : Int)).toNat = lo := ofInt_nat 64 lo (by omega)
    show IntKind.wrap .i64 ((((BitVec.ofInt 64 (IntKind.wrap .i64 ((hi : Int) * 4294967296))) ||| (BitVec.ofInt 64 (lo : Int))).toNat : Nat) : Int) = _
    rw [BitVec.toNat_or, hb, hb2]
  rw [key]
  have hor : (hi * 4294967296) ||| lo = hi * 4294967296 + lo := by
    have := Nat.shiftLeft_add_eq_or_of_lt (i := 32) (b := lo) (by omega) hi
    rw [Nat.shiftLeft_eq] at this
    have e2 : (2 : Nat) ^ 32 = 4294967296 := by decide
    rw [e2] at this
    exact this.symm
  rw [hor, IntKind.wrap_i64]
  omega

def Ent.set (e : Ent) (o : Nat) (v : Int) : Ent := match o with
  | 1 => { e with x := v }
  | 2 => { e with y := v }
  | 3 => { e with r := v }
  | 4 => { e with vx := v }
  | 5 => { e with vy := v }
  | 6 => { e with o := v }
  | 7 => { e with t := v }
  | _ => { e with h := v }
theorem set_cells (e : Ent) {o : Nat} (h1 : 1 ≤ o) (h7 : o ≤ 7) (v : Int) : e.cells.set o (.int .i64 v) = (e.set o v).cells := by
  match o, h1, h7 with
  | 1, _, _ => rfl
  | 2, _, _ => rfl
  | 3, _, _ => rfl
  | 4, _, _ => rfl
  | 5, _, _ => rfl
  | 6, _, _ => rfl
  | 7, _, _ => rfl
theorem set_cells2 (e : Ent) {o : Nat} (h1 : 1 ≤ o) (h7 : o ≤ 7) (v : Int) (tl : List Value) : (e.cells ++ tl).set o (.int .i64 v) = (e.set o v).cells ++ tl := by
  rw [List.set_append_left _ _ (by rw [Ent.cells_length]; omega), set_cells e h1 h7]
def numsE (e b : Ent) (l : List (Nat × Nat × Int)) : Ent := l.foldl (fun b x => b.set x.1 (e.at x.1)) b
def partE (e b : Ent) (m k : Nat) : Ent := if m.testBit (5 - k) then numsE e b (parT.getD k []) else b
def upE (e b : Ent) (m : Nat) : Nat → Ent
  | 0 => b
  | k + 1 => partE e (upE e b m k) m k
def finE (e b : Ent) (m : Nat) : Ent := if m.testBit 0 then (upE e b m 5).set 7 e.t else upE e b m 5
def preB (p : Nat) (new : Bool) (g m : Nat) : List Bool := numBits p 6 ++ (if new then numBits 1 1 ++ numBits g 41 else numBits 0 1 ++ numBits m 6)
def tryE : Ent := ⟨0, 0, 0, 1, 0, 0, 0, 0⟩
def hE (p : Nat) (new : Bool) (g : Nat) : Int := if new then (g * 64 + p : Nat) else (p : Nat)
def chC (E : Ent) (m : Nat) (new : Bool) : List Value := E.cells ++ [.int .i64 (m : Int), .bool new]

theorem rightE_iff {e : Ent} : e.rightE = 0 ↔ e.boxOk = true ∧ e.argOk = true := by
  unfold Ent.rightE
  cases e.boxOk <;> cases e.argOk <;> simp
theorem set_right {e b : Ent} (he : e.rightE = 0) (hb : b.rightE = 0) {o : Nat} (h1 : 1 ≤ o) (h6 : o ≤ 6) : (b.set o (e.at o)).rightE = 0 := by
  rw [rightE_iff] at he hb ⊢
  simp only [Ent.boxOk, Ent.argOk, Bool.and_eq_true] at he hb ⊢
  obtain ⟨⟨⟨⟨e1, e2⟩, e3⟩, e4⟩, ⟨⟨e5, e6⟩, e7⟩, e8⟩ := he
  obtain ⟨⟨⟨⟨b1, b2⟩, b3⟩, b4⟩, ⟨⟨b5, b6⟩, b7⟩, b8⟩ := hb
  match o, h1, h6 with
  | 1, _, _ => exact ⟨⟨⟨⟨e1, b2⟩, b3⟩, b4⟩, ⟨⟨b5, b6⟩, b7⟩, b8⟩
  | 2, _, _ => exact ⟨⟨⟨⟨b1, e2⟩, b3⟩, b4⟩, ⟨⟨b5, b6⟩, b7⟩, b8⟩
  | 3, _, _ => exact ⟨⟨⟨⟨b1, b2⟩, e3⟩, e4⟩, ⟨⟨b5, b6⟩, b7⟩, b8⟩
  | 4, _, _ => exact ⟨⟨⟨⟨b1, b2⟩, b3⟩, b4⟩, ⟨⟨e5, b6⟩, b7⟩, b8⟩
  | 5, _, _ => exact ⟨⟨⟨⟨b1, b2⟩, b3⟩, b4⟩, ⟨⟨b5, e6⟩, b7⟩, b8⟩
  | 6, _, _ => exact ⟨⟨⟨⟨b1, b2⟩, b3⟩, b4⟩, ⟨⟨b5, b6⟩, e7⟩, e8⟩
theorem nums_right {e : Ent} (he : e.rightE = 0) : ∀ {l : List (Nat × Nat × Int)}, (∀ x ∈ l, 1 ≤ x.1 ∧ x.1 ≤ 6) → ∀ {b : Ent}, b.rightE = 0 → (numsE e b l).rightE = 0
  | [], _, _, hb => hb
  | x :: l, hl, b, hb => nums_right he (l := l) (fun y hy => hl y (List.mem_cons_of_mem _ hy)) (set_right he hb (hl x List.mem_cons_self).1 (hl x List.mem_cons_self).2)
theorem up_right {e : Ent} (he : e.rightE = 0) {m : Nat} : ∀ {k : Nat}, k ≤ 5 → (upE e tryE m k).rightE = 0
  | 0, _ => by
    show tryE.rightE = 0
    decide
  | k + 1, hk => by
    have ih := up_right he (m := m) (k := k) (by omega)
    obtain ⟨l, h1, h2, h3, h4⟩ := parT_get (k := k) (by omega)
    unfold upE partE
    split
    · rw [h2]
      exact nums_right he (fun x hx => num_at h4 hx) ih
    · exact ih

end Go.Proofs.YtfnepdppkmjboaaDoor

/- SnR: a change is read. Conditions: those of each theorem, on its arguments. -/
namespace Go.Proofs.YtfnepdppkmjboaaDoor
open Go Go.Sx Go.Fp
attribute [local irreducible] jn lv ld st nw asI asB asP asS asY asM asF asA asT lp rn ru rq cl dw dr bnd bn2 nz nn hd hr so eqW
attribute [local irreducible] callOk

set_option maxHeartbeats 6400000 in
theorem read_b {w00 : World} (hp : Pts w00) {B : Nat → Prop} {w : World} {q : Nat} {p g m : Nat} {new : Bool} {e : Ent} {rest : List Bool} (hS : Bn w00 B w w [] (DJ q (preB p new g m ++ (wB e m ++ rest)))) (hp64 : p < 64) (hm : m < 64) (hm0 : 0 < m) (hg1 : 1 ≤ g) (hg2 : g ≤ 1099511627776) (hnew : new = true → m = 63)
    (he : e.rightE = 0) (ht : I64 e.t) {K : Value → World → Prop} (hK : ∀ w' L', Bn w00 B w w' L' (DJ q rest) → K (.agg (chC (finE e { Ent.zero with h := hE p new g } m) m new).toArray) w') :
    cl Tryd.prog 36 #[.pointer (some ⟨q, 0, none⟩)] w K := by
  have hf := right_fit he
  apply F36_calls
  unfold F36
  (refine hS.nw ?_; clear hS; intro r1 _ hS)
  (refine hS.nw ?_; clear hS; intro r3 _ hS)
  refine hS.st0 0 rfl rfl rfl fun w5 hS => hS.st 0 rfl rfl rfl fun w6 hS => hS.st 0 rfl rfl rfl fun w7 hS => hS.st 0 rfl rfl rfl fun w8 hS => hS.st 0 rfl rfl rfl fun w9 hS => hS.st 0 rfl rfl rfl fun w10 hS => hS.st 0 rfl rfl rfl fun w11 hS => hS.st 0 rfl rfl rfl fun w12 hS => hS.st 0 rfl rfl rfl fun w13 hS => hS.st 0 rfl rfl rfl fun w14 hS => ?_
  unfold preB at hS
  rw [List.append_assoc] at hS
  refine hS.take hp64 (by decide) fun w16 hS => asI_i rfl (lv_i ?_)
  refine jn_of (fun s w' => s = [] ∧ Bn w00 B w w' [(r3, chC { Ent.zero with h := hE p new g } m new, 90), (r1, chC Ent.zero 0 false, 90)] (DJ q (wB e m ++ rest))) ?_ ?_
  rotate_left
  · intro J hJ
    cases new with
    | true =>
      obtain rfl := hnew rfl
      simp only [if_true, List.append_assoc] at hS
      refine hS.take (v := 1) (n := 1) (by decide) (by decide) fun w17 hS => asI_i rfl (hS.st 0 rfl rfl rfl fun w18 hS => hS.ld 0 rfl rfl (asB_i rfl (cond_t rfl ?_)))
      have p41 : (2 : Nat) ^ 41 = 2199023255552 := by decide
      refine hS.take (v := g) (n := 41) (by omega) (by decide) fun w19 hS => asI_i rfl (lv_i ?_)
      refine jn_of (fun s w' => s = [] ∧ Bn w00 B w w' [(r3, chC Ent.zero 63 true, 90), (r1, chC Ent.zero 0 false, 90)] (DJ q (wB e 63 ++ rest))) ?_ ?_
      · rintro _ w20 ⟨rfl, hS⟩
        have ew : IntKind.wrap .i64 (IntKind.wrap .i64 ((g : Int) * 64) + (p : Int)) = ((g * 64 + p : Nat) : Int) := by rw [wr64 (n := (g : Int) * 64) (by omega) (by omega), wr64 (by omega) (by omega)]; omega
        rw [ew]
        refine hS.st0 0 rfl rfl rfl fun w21 hS => hJ _ _ ⟨rfl, hS⟩
      · intro J2 hJ2
        refine dr_i (ld_mk (by rw [add_mk]; exact hS.wrong) (asB_i rfl (cond_f rfl (cond_f (by simp; omega) (dr_i ?_)))))
        have e0 : decide ((g : Int) > 1099511627776) = false := by simp; omega
        rw [e0]
        exact hS.noWrong fun w21 hS => hJ2 _ _ ⟨rfl, hS⟩
    | false =>
      simp only [Bool.false_eq_true, if_false, List.append_assoc] at hS
      refine hS.take (v := 0) (n := 1) (by decide) (by decide) fun w17 hS => asI_i rfl (hS.st 0 rfl rfl rfl fun w18 hS => hS.ld 0 rfl rfl (asB_i rfl (cond_f rfl ?_)))
      refine hS.st0 0 rfl rfl rfl fun w19 hS => ?_
      refine hS.take (v := m) (n := 6) (by omega) (by decide) fun w20 hS => asI_i rfl (hS.st 0 rfl rfl rfl fun w21 hS => ?_)
      refine dr_i (ld_mk (by rw [add_mk]; exact hS.wrong) (asB_i rfl (cond_f rfl (hS.ld 0 rfl rfl (asI_i rfl (dr_i ?_))))))
      have e0 : ((m : Int) == 0) = false := by simp; omega
      rw [e0]
      exact hS.noWrong fun w22 hS => hJ _ _ ⟨rfl, hS⟩
  clear hS
  rintro _ w17 ⟨rfl, hS⟩
  (refine hS.nw ?_; clear hS; intro r59 _ hS)
  refine Bn.put8 hS rfl tryE fun w18 hS => ?_
  refine hp.load hS.all fun p0 n0 c0 p1 n1 c1 p2 n2 c2 p3 n3 c3 p4 n4 c4 harr => ?_
  generalize hE p new g = hh at hS hK
  refine lp_mk (fun k : Nat => [.int .i64 (k : Int)]) (fun z k w' => z = 5 - k ∧ k ≤ 5 ∧ ∃ rs, wB e m = upB e m k ++ rs ∧ Bn w00 B w w' [(r59, (upE e tryE m k).cells, 59), (r3, chC (upE e { Ent.zero with h := hh } m k) m new, 90), (r1, chC Ent.zero 0 false, 90)] (DJ q (rs ++ rest))) 5 0 rfl ⟨rfl, Nat.zero_le _, wB e m, rfl, hS⟩ ?_
  clear hS
  rintro _ k w19 ⟨rfl, hk, rs, hrs, hS⟩ J hJ
  refine asI_i rfl (cond_split (fun hc => ?_) (fun hc => ?_))
  · have hk5 : k < 5 := by
      have := of_decide_eq_true hc
      omega
    obtain ⟨pp, c, l', hA, hP, hR⟩ := harr k hk5
    obtain ⟨l2, hP2, hG, hl2, hmem⟩ := parT_get hk5
    obtain rfl : l' = l2 := Option.some.inj (hP.symm.trans hP2)
    obtain ⟨rs2, hrs2⟩ : ∃ rs2, rs = partB e m k ++ rs2 := by
      have hle : ∀ n, k + 1 + n ≤ 5 → ∃ x, upB e m (k + 1 + n) = upB e m (k + 1) ++ x := by
        intro n
        induction n with
        | zero => exact fun _ => ⟨[], by simp⟩
        | succ n ih =>
          intro hn
          obtain ⟨x, hx⟩ := ih (by omega)
          exact ⟨x ++ partB e m (k + 1 + n), by rw [← List.append_assoc, ← hx]; rfl⟩
      obtain ⟨x, hx⟩ := hle (5 - (k + 1)) (by omega)
      have e5 : k + 1 + (5 - (k + 1)) = 5 := by omega
      rw [e5] at hx
      have h1 : wB e m = upB e m k ++ (partB e m k ++ (x ++ if m.testBit 0 then tagB e.t else [])) := by
        unfold wB
        rw [hx]
        simp only [upB, List.append_assoc]
      exact ⟨_, List.append_cancel_left (hrs.symm.trans h1)⟩
    subst hrs2
    have hrs' : wB e m = upB e m (k + 1) ++ rs2 := by rw [hrs, upB, List.append_assoc]
    refine jn_of (fun s w' => s = [] ∧ Bn w00 B w w' [(r59, (upE e tryE m (k + 1)).cells, 59), (r3, chC (upE e { Ent.zero with h := hh } m (k + 1)) m new, 90), (r1, chC Ent.zero 0 false, 90)] (DJ q (rs2 ++ rest))) ?_ ?_
    · rintro _ w20 ⟨rfl, hS⟩
      have ek : IntKind.wrap .i64 ((k : Int) + 1) = ((k + 1 : Nat) : Int) := by rw [wr64 (by omega) (by omega)]; omega
      rw [ek]
      exact hJ (5 - (k + 1)) (k + 1) _ (by omega) ⟨rfl, by omega, rs2, hrs', hS⟩
    intro J2 hJ2
    refine bnd_mk (by omega) (by omega) (so_i hA (asS_i rfl (lv_i (hS.ld 1 rfl rfl (asI_i rfl (nn_mk ?_ ?_))))))
    · rw [wr64 (by omega) (by omega)]; omega
    rw [mbit hm hk5]
    refine cond_split (fun hb => hJ2 _ _ ⟨rfl, ?_⟩) (fun hb => ?_)
    · have hb' : m.testBit (5 - k) = false := by simpa using hb
      have e1 : ∀ b, upE e b m (k + 1) = upE e b m k := fun b => by simp [upE, partE, hb']
      have e2 : partB e m k = [] := by simp [partB, hb']
      rw [e1, e1]
      rw [e2] at hS
      exact hS
    have hb' : m.testBit (5 - k) = true := by simpa using hb
    have e1 : ∀ b, upE e b m (k + 1) = numsE e (upE e b m k) l' := fun b => by simp only [upE, partE, hb', if_true, hG]
    have e2 : partB e m k = l'.flatMap (numB e) := by simp only [partB, hb', if_true, hG]
    rw [e2, List.append_assoc] at hS
    rw [e1, e1] at hJ2
    generalize upE e tryE m k = T at hS hJ2
    generalize upE e { Ent.zero with h := hh } m k = E at hS hJ2
    refine lp_mk (fun j : Nat => [.int .i64 (j : Int)]) (fun z j w' => z = l'.length - j ∧ j ≤ l'.length ∧ Bn w00 B w w' [(r59, (numsE e T (l'.take j)).cells, 59), (r3, chC (numsE e E (l'.take j)) m new, 90), (r1, chC Ent.zero 0 false, 90)] (DJ q ((l'.drop j).flatMap (numB e) ++ (rs2 ++ rest)))) l'.length 0 rfl ⟨rfl, Nat.zero_le _, hS⟩ ?_
    clear hS
    rintro _ j w20 ⟨rfl, hj, hS⟩ J3 hJ3
    refine asI_i rfl (cond_split (fun hc2 => ?_) (fun hc2 => ?_))
    · have hjl : j < l'.length := by
        have := of_decide_eq_true hc2
        omega
      have hx : l'[j]? = some l'[j] := List.getElem?_eq_getElem hjl
      have hfx := hf l' hmem _ (List.getElem_mem hjl)
      have hdrop : l'.drop j = l'[j] :: l'.drop (j + 1) := List.drop_eq_getElem_cons hjl
      have et : ∀ b, numsE e b (l'.take (j + 1)) = (numsE e b (l'.take j)).set l'[j].1 (e.at l'[j].1) := fun b => by
        rw [List.take_add_one, hx]
        unfold numsE
        rw [List.foldl_append]
        rfl
      rw [hdrop] at hS
      generalize l'[j] = x at hx hfx et hS
      rw [List.flatMap_cons, List.append_assoc] at hS
      have hbig : e.at x.1 + x.2.2 ≤ 9223372036854775807 ∧ -9223372036854775808 ≤ e.at x.1 ∧ e.at x.1 ≤ 9223372036854775807 := by
        have h1 := hfx.2.2.1
        have h2 : (2 : Nat) ^ x.2.1 ≤ 2 ^ 44 := Nat.pow_le_pow_right (by decide) hfx.2.2.2.1
        have h3 : (2 : Nat) ^ 44 = 17592186044416 := by decide
        have h4 : 0 ≤ x.2.2 ∧ x.2.2 ≤ 4398046511104 := by
          have hxm := List.mem_of_getElem? hx
          have : ∀ l ∈ parT, ∀ x ∈ l, 0 ≤ x.2.2 ∧ x.2.2 ≤ 4398046511104 := by decide
          exact this l' hmem x hxm
        omega
      refine Reads.atN (f := numC) numC_length (hR.ext hS.all fun _ _ h => h) rfl hx (by decide) fun a _ hca => ?_
      have hc0 := hca 0 (by decide)
      have hc1 := hca 1 (by decide)
      have hc2' := hca 2 (by decide)
      rw [Sx.add_zero'] at hc0
      rw [Int.toNat_natCast]
      refine ld_mk hc0 (asN_i rfl (ld_mk hc1 (asI_i rfl (ld_mk hc2' (asI_i rfl ?_)))))
      (refine hS.nw ?_; clear hS; intro r2 _ hS)
      refine hS.st0 0 rfl rfl rfl fun w3 hS => ?_
      refine hS.st 0 rfl rfl rfl fun w4 hS => ?_
      refine hS.st 0 rfl rfl rfl fun w5 hS => ?_
      refine hS.dw fun w6 hS _ => hS.ld 0 rfl rfl (asI_i rfl (hS.ld 0 rfl rfl (asI_i rfl ?_)))
      refine hS.take hfx.2.2.1 (by omega) fun w7 hS => asI_i rfl (hS.hd 0 rfl rfl (lv_i ?_))
      have ev : IntKind.wrap .i64 (((e.at x.1 + x.2.2).toNat : Int) - x.2.2) = e.at x.1 := by
        rw [Int.toNat_of_nonneg hfx.2.1, wr64 (by omega) (by omega)]; omega
      rw [ev]
      refine hS.dw fun w8 hS _ => hS.ld0 0 rfl rfl (asN_i rfl (hS.ld0 0 rfl rfl (asN_i rfl (cond_t (numF_ok x.1) (numF_k hfx.2.2.2.2.1 hfx.2.2.2.2.2 (asP_i rfl (hS.hd0 0 rfl rfl (cond_t (numF_ok x.1) (numF_k hfx.2.2.2.2.1 hfx.2.2.2.2.2 (asP_i rfl (dr_i ?_)))))))))))
      have ho1 := hfx.2.2.2.2.1
      have ho6 := hfx.2.2.2.2.2
      refine hS.stj 1 rfl (by rw [Ent.cells_length]; omega) rfl fun w9 hS _ => dr_i ?_
      refine hS.stj 2 rfl (by simp only [chC, List.length_append, Ent.cells_length]; omega) rfl fun w10 hS _ => ?_
      have ej : IntKind.wrap .i64 ((j : Int) + 1) = ((j + 1 : Nat) : Int) := by rw [wr64 (by omega) (by omega)]; omega
      rw [ej]
      refine hJ3 (l'.length - (j + 1)) (j + 1) _ (by omega) ⟨rfl, by omega, ?_⟩
      rw [et, et]
      have hS := hS.tail
      simp only [List.set_cons_succ, List.set_cons_zero] at hS
      unfold chC at hS ⊢
      rw [set_cells _ ho1 (by omega), set_cells2 _ ho1 (by omega)] at hS
      exact hS
    · have hjl : j = l'.length := by
        have := of_decide_eq_false hc2
        omega
      subst hjl
      rw [List.take_length, List.drop_length] at hS
      exact hJ2 _ _ ⟨rfl, hS⟩
  · have hk5 : k = 5 := by
      have := of_decide_eq_false hc
      omega
    subst hk5
    clear hJ J
    have hrs2 : rs = if m.testBit 0 then tagB e.t else [] := by
      unfold wB at hrs
      exact (List.append_cancel_left hrs).symm
    subst hrs2
    refine jn_of (fun s w' => s = [] ∧ Bn w00 B w w' [(r59, (upE e tryE m 5).cells, 59), (r3, chC (finE e { Ent.zero with h := hh } m) m new, 90), (r1, chC Ent.zero 0 false, 90)] (DJ q rest)) ?_ ?_
    rotate_left
    · intro J hJ
      refine hS.ld 1 rfl rfl (asI_i rfl ?_)
      rw [mbit0 hm]
      refine cond_split (fun hb => ?_) (fun hb => hJ _ _ ⟨rfl, ?_⟩)
      · rw [if_pos hb] at hS
        unfold tagB at hS
        rw [List.append_assoc] at hS
        obtain ⟨a1, a2⟩ := tagHi_rng e.t
        obtain ⟨b1, b2⟩ := tagLo_rng e.t
        have p32 : (2 : Nat) ^ 32 = 4294967296 := by decide
        refine hS.take (n := 32) (by omega) (by decide) fun w3 hS => asI_i rfl (lv_i ?_)
        refine hS.take (n := 32) (by omega) (by decide) fun w4 hS => asI_i rfl ?_
        rw [Int.toNat_of_nonneg a1, Int.toNat_of_nonneg b1, tag_join ht]
        refine hS.st 1 rfl rfl rfl fun w5 hS => hJ _ _ ⟨rfl, ?_⟩
        have ef : finE e { Ent.zero with h := hh } m = (upE e { Ent.zero with h := hh } m 5).set 7 e.t := by unfold finE; rw [if_pos hb]
        rw [ef]
        exact hS
      · have ef : finE e { Ent.zero with h := hh } m = upE e { Ent.zero with h := hh } m 5 := by unfold finE; rw [if_neg (by simp [hb])]
        rw [ef]
        rw [if_neg (by simp [hb])] at hS
        exact hS
    clear hS
    rintro _ w20 ⟨rfl, hS⟩
    generalize hfin : finE e { Ent.zero with h := hh } m = F at hS hK
    refine jn_of (fun s w' => s = [] ∧ Bn w00 B w w' [(r59, (upE e tryE m 5).cells, 59), (r3, chC F m new, 90), (r1, chC Ent.zero 0 false, 90)] (DJ q rest)) ?_ ?_
    rotate_left
    · intro J hJ
      refine dr_i (ld_mk (by rw [add_mk]; exact hS.wrong) (asB_i rfl (cond_f rfl ?_)))
      refine Bn8 hS 0 rfl ?_
      refine eright_k (e := upE e tryE m 5) fun w21 hx => asI_i rfl (dr_i ?_)
      rw [up_right he (Nat.le_refl 5)]
      exact (hS.to hx).noWrong fun w22 hS => hJ _ _ ⟨rfl, hS⟩
    clear hS
    rintro _ w21 ⟨rfl, hS⟩
    repeat (first | (refine asI_i rfl ?_) | (refine asB_i rfl ?_) | (refine asN_i rfl ?_) | (refine asP_i rfl ?_) | (refine asS_i rfl ?_) | (refine asY_i rfl ?_) | (refine asM_i rfl ?_) | (refine asA_i rfl rfl ?_) | (refine asT_i rfl rfl ?_) | (refine lv_i ?_) | (refine hS.nw ?_; clear hS; intro _ _ hS) | (refine hS.dw ?_; clear hS; intro _ hS _) | (refine hS.ld0 0 rfl rfl ?_) | (refine hS.ld 0 rfl rfl ?_) | (refine hS.ld0 1 rfl rfl ?_) | (refine hS.ld 1 rfl rfl ?_) | (refine hS.ld0 2 rfl rfl ?_) | (refine hS.ld 2 rfl rfl ?_) | (refine hS.ld0 3 rfl rfl ?_) | (refine hS.ld 3 rfl rfl ?_) | (refine hS.ld0 4 rfl rfl ?_) | (refine hS.ld 4 rfl rfl ?_) | (refine hS.ld0 5 rfl rfl ?_) | (refine hS.ld 5 rfl rfl ?_) | (refine hS.ld0 6 rfl rfl ?_) | (refine hS.ld 6 rfl rfl ?_) | (refine hS.ld0 7 rfl rfl ?_) | (refine hS.ld 7 rfl rfl ?_) | (refine hS.hd0 0 rfl rfl ?_) | (refine hS.hd 0 rfl rfl ?_) | (refine hS.hd0 1 rfl rfl ?_) | (refine hS.hd 1 rfl rfl ?_) | (refine hS.hd0 2 rfl rfl ?_) | (refine hS.hd 2 rfl rfl ?_) | (refine hS.hd0 3 rfl rfl ?_) | (refine hS.hd 3 rfl rfl ?_) | (refine hS.hd0 4 rfl rfl ?_) | (refine hS.hd 4 rfl rfl ?_) | (refine hS.hd0 5 rfl rfl ?_) | (refine hS.hd 5 rfl rfl ?_) | (refine hS.hd0 6 rfl rfl ?_) | (refine hS.hd 6 rfl rfl ?_) | (refine hS.hd0 7 rfl rfl ?_) | (refine hS.hd 7 rfl rfl ?_) | (refine hS.st0 0 rfl rfl rfl ?_; clear hS; intro _ hS) | (refine hS.st 0 rfl rfl rfl ?_; clear hS; intro _ hS) | (refine hS.st0 1 rfl rfl rfl ?_; clear hS; intro _ hS) | (refine hS.st 1 rfl rfl rfl ?_; clear hS; intro _ hS) | (refine hS.st0 2 rfl rfl rfl ?_; clear hS; intro _ hS) | (refine hS.st 2 rfl rfl rfl ?_; clear hS; intro _ hS) | (refine hS.st0 3 rfl rfl rfl ?_; clear hS; intro _ hS) | (refine hS.st 3 rfl rfl rfl ?_; clear hS; intro _ hS) | (refine hS.st0 4 rfl rfl rfl ?_; clear hS; intro _ hS) | (refine hS.st 4 rfl rfl rfl ?_; clear hS; intro _ hS) | (refine hS.st0 5 rfl rfl rfl ?_; clear hS; intro _ hS) | (refine hS.st 5 rfl rfl rfl ?_; clear hS; intro _ hS) | (refine hS.st0 6 rfl rfl rfl ?_; clear hS; intro _ hS) | (refine hS.st 6 rfl rfl rfl ?_; clear hS; intro _ hS) | (refine hS.st0 7 rfl rfl rfl ?_; clear hS; intro _ hS) | (refine hS.st 7 rfl rfl rfl ?_; clear hS; intro _ hS) | (refine bnd_mk (by decide) (by decide) ?_) | (refine so_i rfl ?_))
    exact hK _ _ hS
end Go.Proofs.YtfnepdppkmjboaaDoor
