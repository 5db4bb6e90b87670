/-
  A row of cells stored into a block at once.
-/
import Derived.Test.YtlonefjbcooaaaaDoorInts
import Derived.Test.YtlonefjbcooaaaaDoorRowB
