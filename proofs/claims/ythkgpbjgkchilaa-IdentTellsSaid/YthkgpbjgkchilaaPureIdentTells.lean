/- The pure law IdentTells. Conditions: none. -/
import Derived.Test.YthkgpbjgkchilaaPc
