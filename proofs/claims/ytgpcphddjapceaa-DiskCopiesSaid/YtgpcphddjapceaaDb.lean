/- The disk's statements: the chapter's example. -/
import Derived.Test.YtgpcphddjapceaaDa
namespace Go.Proofs.Ytgpcphddjapceaa
open Go.Sy

set_option maxRecDepth 100000 in
set_option maxHeartbeats 1000000 in
theorem awake_fn : Fc Try.prog 15 [] [] (.lit (.bool true)) [] := by
  have hm : max (-1 : Int) 1 = 1 := by decide
  refine Fc.of (anys _ [16, 17, 27, 19, 24, 20, 25]) [] mixed Try.func15 rfl (by rfl) (by simp) (by decide) ?_
  simp -implicitDefEqProofs -dsimp [Try.ntmps15]
  refine CallK.works ?_
  simp -implicitDefEqProofs -dsimp
  refine CallQ.mk (new_fn 5 (by omega) (by omega)) trivial ?_
  simp -implicitDefEqProofs -dsimp
  refine CallK.works ?_
  simp -implicitDefEqProofs -dsimp
  refine CallQ.same (append_fn _ ?_ _ [97, 98, 99]) rfl ?_
  · constructor <;> simp
  simp -implicitDefEqProofs -dsimp [DS.append, DS.app, DS.left]
  refine CallK.works ?_
  simp -implicitDefEqProofs -dsimp
  refine CallQ.same (fuse_fn _ _) rfl ?_
  simp -implicitDefEqProofs -dsimp [hm]
  refine CallK.works ?_
  simp -implicitDefEqProofs -dsimp
  refine CallQ.same (append_fn _ ?_ _ [100, 101]) rfl ?_
  · constructor <;> simp
  simp -implicitDefEqProofs -dsimp [DS.append, DS.app, DS.left]
  refine CallK.fresh ?_
  simp -implicitDefEqProofs -dsimp
  refine CallQ.same (bytes_fn _ ?_) rfl ?_
  · constructor <;> simp
  simp -implicitDefEqProofs -dsimp [fr_u8s, ofBs]
  refine CallK.reads ?_
  simp -implicitDefEqProofs -dsimp
  refine CallQ.same (dead_fn _) rfl ?_
  simp -implicitDefEqProofs -dsimp
  refine CallK.reads ?_
  simp -implicitDefEqProofs -dsimp
  refine CallQ.same (size_fn _) rfl ?_
  simp -implicitDefEqProofs -dsimp
  refine CallK.reads ?_
  simp -implicitDefEqProofs -dsimp
  refine CallQ.same (left_fn _ ?_) rfl ?_
  · constructor <;> simp
  simp -implicitDefEqProofs -dsimp [DS.left]
end Go.Proofs.Ytgpcphddjapceaa
